/- Part 2, beside the shared parts, of the proof of the claim: contracts and plain laws; no condition. -/
import Derived.Test.YtdidbebgbinncaaGreatDoorV01
import Derived.Test.YtdidbebgbinncaaGreatDoorV02
import Derived.Test.YtdidbebgbinncaaGreatDoorV03
import Derived.Test.YtdidbebgbinncaaGreatDoorV04
import Derived.Test.YtdidbebgbinncaaGreatDoorV05
import Derived.Test.YtdidbebgbinncaaGreatDoorV06
import Derived.Test.YtdidbebgbinncaaGreatDoorV07
import Derived.Test.YtdidbebgbinncaaGreatDoorV08
import Derived.Test.YtdidbebgbinncaaGreatDoorV09
import Derived.Test.YtdidbebgbinncaaGreatDoorV10
import Derived.Test.YtdidbebgbinncaaGreatDoorV11
import Derived.Test.YtdidbebgbinncaaGreatDoorV12
import Derived.Test.YtdidbebgbinncaaGreatDoorV13
import Derived.Test.YtdidbebgbinncaaGreatDoorV14
import Derived.Test.YtdidbebgbinncaaGreatDoorV15
import Derived.Test.YtdidbebgbinncaaGreatDoorV16
import Derived.Test.YtdidbebgbinncaaGreatDoorV17
import Derived.Test.YtdidbebgbinncaaGreatDoorV18
import Derived.Test.YtdidbebgbinncaaGreatDoorV19
import Derived.Test.YtdidbebgbinncaaGreatDoorV20
import Derived.Test.YtdidbebgbinncaaGreatDoorV21
import Derived.Test.YtdidbebgbinncaaGreatDoorV22
import Derived.Test.YtdidbebgbinncaaGreatDoorV23
import Derived.Test.YtdidbebgbinncaaGreatDoorV24
import Derived.Test.YtdidbebgbinncaaGreatDoorV25
import Derived.Test.YtdidbebgbinncaaGreatDoorV26
import Derived.Test.YtdidbebgbinncaaGreatDoorV27
import Derived.Test.YtdidbebgbinncaaGreatDoorV28
import Derived.Test.YtdidbebgbinncaaGreatDoorV29
import Derived.Test.YtdidbebgbinncaaGreatDoorV30
import Derived.Test.YtdidbebgbinncaaGreatDoorV31
import Derived.Test.YtdidbebgbinncaaGreatDoorV32
import Derived.Test.YtdidbebgbinncaaGreatDoorV33
import Derived.Test.YtdidbebgbinncaaGreatDoorW01
import Derived.BigQuiet
import Derived.Test.YtdidbebgbinncaaGreatDoorRows
import Derived.ProofKit
import Derived.LaidMore
import Derived.OpenShut
import Derived.Stop.Joined
import Derived.Stop.LaidErr
import Derived.Lib.LaidTab
import Derived.Deep.Matrix
namespace Go.Proofs.YtdidbebgbinncaaGreatDoor
open Go.RowKit Go.Sort
theorem tmpT_b24 {x v : List Int} (hx : ∀ z ∈ x, -1000 ≤ z ∧ z ≤ 1000) (hv : ∀ z ∈ v, -1000000000 ≤ z ∧ z ≤ 1000000000) : ∀ k, (sumZ (fun i => x.getD i 0 * v.getD i 0) k).natAbs ≤ k * 1000000000000
  | 0 => by simp [sumZ]
  | k + 1 => by
    have h1 := tmpT_b24 hx hv k
    have h2 : (x.getD k 0 * v.getD k 0).natAbs ≤ 1000000000000 := by
      rw [Int.natAbs_mul]
      have a1 : (x.getD k 0).natAbs ≤ 1000 := by
        rw [List.getD_eq_getElem?_getD]
        rcases Nat.lt_or_ge k x.length with h | h
        · rw [List.getElem?_eq_getElem h]; have := hx _ (List.getElem_mem h); simp only [Option.getD_some]; omega
        · rw [List.getElem?_eq_none h]; simp
      have a2 : (v.getD k 0).natAbs ≤ 1000000000 := by have := getD_bd9 hv k; omega
      exact Nat.le_trans (Nat.mul_le_mul a1 a2) (by decide)
    rw [sumZ]; omega
set_option maxRecDepth 100000 in
set_option maxHeartbeats 4000000 in
theorem sizeOf24_any {w : World} {P : List Int} {C M : Mx} {G : List (List Rat)} {sp : Option Addr} {cp : Nat} {sc : Option Addr} {lc cc : Nat} {sm : Option Addr} {lm cm : Nat} {sg : Option Addr} {lg cg : Nat} {sx : Option Addr} {nx cx : Nat} {x : List Int} (h : TuV w P C M G sp cp sc lc cc sm lm cm sg lg cg) (hx : RowR w (.slice sx nx cx) x) (h0 : tuE P.length M x = 0) (hL : Laid w) :
    Calls Tryz.prog 18 #[tuS P sp cp sc lc cc sm lm cm sg lg cg, .slice sx nx cx] w fun e w' => (∃ g, e = .returned (slv g P.length P.length) ∧ SzO w.heap.size w' g (tuL P.length M G x)) ∧ Ext w w' := by
  obtain ⟨hmz, hsm⟩ := tuE_zero h0
  obtain ⟨hxl, hxb⟩ := mzE_zero hmz
  obtain ⟨hT, hG, hln, hcl, hsh⟩ := h
  have hm4 := hT.m4
  have hp4 := hT.ok.p4
  have hsM := hT.ok.sM
  have hnx : nx = P.length := by obtain ⟨_, _, _, _, e, _⟩ := hx; injection e with _ e2 _; omega
  have Hfac := Lib.hid (fun W v (hW : Ext w W) (hv : RowR W v (tmpL M x)) => factors24_any (w := W) (v := v) hv (by rw [tmpL_length]; omega) (fun z hz => by have := smallB_iff.1 hsm z hz; unfold I64; omega) (hL.ext hW))
  have Hcmb := Lib.hid (fun W v (hW : Ext w W) (hv : SzR W v (nbL (tmpL M x))) => combine24_any (np := P.length) (hG.ext hW) hv hcl (by rw [nbL_length, tmpL_length]; omega) (fun s hs => shQ_nd (hsh s hs) (by omega)) (nbL_nd (smallB_iff.1 hsm) (by omega)) (by omega) (by omega) (hL.ext hW))
  have hdef : tuL P.length M G x = cmbQ G (nbL (tmpL M x)) P.length := rfl
  simp only [← hdef] at Hcmb
  obtain ⟨sx', gx, ox, cx', ex, hxc, hSx⟩ := hx
  injection ex with q1 q2 q3
  subst q1 q3
  have HSx := Lib.hid hSx
  obtain ⟨sm', gm, om, cm', vs, em, hmc, hvl, hSm, hrm⟩ := hT.hM
  injection em with q4 q5 q6
  subst q4 q6
  have HS := Lib.hid hSm
  have HV := Lib.hid hvl
  have HR := Lib.hid hrm
  have hX := (Ext.refl w).alloc (.cells #[.slice sp P.length cp, .slice sc lc cc, .slice sm lm cm, .slice sg lg cg] 44)
  have x0 : (w.alloc (.cells #[.slice sp P.length cp, .slice sc lc cc, .slice sm lm cm, .slice sg lg cg] 44)).cell? ⟨w.heap.size, 0, none⟩ = some (.slice sp P.length cp) := by go_simp
  have x1 : (w.alloc (.cells #[.slice sp P.length cp, .slice sc lc cc, .slice sm lm cm, .slice sg lg cg] 44)).cell? ⟨w.heap.size, 1, none⟩ = some (.slice sc lc cc) := by go_simp
  have x2 : (w.alloc (.cells #[.slice sp P.length cp, .slice sc lc cc, .slice sm lm cm, .slice sg lg cg] 44)).cell? ⟨w.heap.size, 2, none⟩ = some (.slice sm lm cm) := by go_simp
  have x3 : (w.alloc (.cells #[.slice sp P.length cp, .slice sc lc cc, .slice sm lm cm, .slice sg lg cg] 44)).cell? ⟨w.heap.size, 3, none⟩ = some (.slice sg lg cg) := by go_simp
  subst q5
  subst hnx
  have Hxl := Lib.hid hxl
  have Hb := Lib.hid (fun i (h : i < M.length) k => tmpT_b24 hxb (hsM _ (List.getElem_mem h)) k)
  have Hrl := Lib.hid (show ∀ i (h : i < M.length), M[i].length = P.length from fun i h => by
    obtain ⟨psM, hIM⟩ := hT.ok.kM.1
    exact hIM.rect _ (List.getElem_mem h))
  have Htl := Lib.hid (tmpL_length M x)
  have Htg : Hid (∀ i (h : i < M.length), (tmpL M x).take (i + 1) = (tmpL M x).take i ++ [sumZ (fun k => x.getD k 0 * M[i].getD k 0) P.length]) := Lib.hid (fun i h => by
    have hi : i < (tmpL M x).length := by rw [tmpL_length]; exact h
    have e : (tmpL M x)[i] = sumZ (fun k => x.getD k 0 * M[i].getD k 0) P.length := by
      simp only [tmpL, List.getElem_map]
      exact congrArg (sumZ (fun k => x.getD k 0 * M[i].getD k 0)) hxl
    rw [List.take_succ_eq_append_getElem hi, e])
  have hw1 : w.heap.size + 1 = (w.alloc (.cells #[.slice sp P.length cp, .slice sc lc cc, .slice sm M.length cm, .slice sg lg cg] 44)).heap.size := by simp
  clear hT hG hln hcl hsh hsM hmz hsm hxb h0 hL hdef hSx hSm hrm hvl hxl q2 hxc
  go_enter Tryz.func18, Tryz.ntmps18
  go_wp2_with fail
  generalize w.alloc (.cells #[.slice sp P.length cp, .slice sc lc cc, .slice sm M.length cm, .slice sg lg cg] 44) = X at *
  have Hw1 := Lib.hid hw1
  clear hw1
  go_loopw [5, 6] (fun tv iv wr => ∃ i : Nat, i ≤ M.length ∧ iv = .int .i64 i ∧ Hid (RowV X.heap.size wr tv ((tmpL M x).take i)) ∧ Ext X wr) (fun _ iv _ => M.length - (intOf iv).toNat)
  case atStart => exact ⟨0, by omega, by go_num, Lib.hid (RowV.nil _ _), Ext.refl _⟩
  case round =>
    obtain ⟨i, hi, rfl, HVr, hE⟩ := hrel
    generalize wr = Y at *
    have y0 := hE.cell x0
    have y2 := hE.cell x2
    have y3 := hE.cell x3
    have eY := hX.trans hE
    have hYs := hE.size
    by_cases hlt : i < M.length
    · have hii : (i : Int) < (M.length : Int) := by omega
      obtain rfl := HS.out.addr (by rw [HV.out]; omega)
      obtain ⟨sr, br, or, cr, hrow, hrc, hSr⟩ := MatR.row HS.out HV.out HR.out hlt
      have hrl := Hrl.out i hlt
      rw [hrl] at hrow hrc
      have yr := eY.cell hrow
      have HSr := Lib.hid hSr
      have Htk := Lib.hid (Htg.out i hlt)
      have Hbi := Lib.hid (Hb.out i hlt)
      obtain ⟨v, hv⟩ : ∃ v, v = M[i] := ⟨_, rfl⟩
      rw [← hv] at Htk Hbi hrl
      have Hv := Lib.hid hv
      have hil : ((tmpL M x).take i).length = i := by rw [List.length_take, Htl.out]; omega
      have Hil := Lib.hid hil
      have Hvl := Lib.hid hrl
      have HYs := Lib.hid hYs
      clear hrow hSr hil hv hrl hYs
      go_wp2_with fail
      go_loopw [7, 8] (fun sv kv wr => ∃ k : Nat, k ≤ P.length ∧ kv = .int .i64 k ∧ sv = .int .i64 (sumZ (fun t => x.getD t 0 * v.getD t 0) k) ∧ Ext Y wr) (fun _ kv _ => P.length - (intOf kv).toNat)
      case atStart => exact ⟨0, by omega, by go_num, rfl, Ext.refl _⟩
      case round =>
        obtain ⟨k, hk, rfl, rfl, hEk⟩ := hrel
        generalize wr = U at *
        have u2 := hEk.cell y2
        have ur := hEk.cell yr
        have u0 := hEk.cell y0
        have u3 := hEk.cell y3
        by_cases hkl : k < P.length
        · have hki : (k : Int) < (P.length : Int) := by omega
          have hkx : k < x.length := by rw [Hxl.out]; exact hkl
          have hkv : k < v.length := by rw [Hvl.out]; exact hkl
          obtain rfl := HSx.out.addr (by simp; omega)
          obtain rfl := HSr.out.addr (by simp; rw [← Hv.out, Hvl.out]; omega)
          have cx0 := (eY.trans hEk).cell (HSx.out.cell k (.int .i64 x[k]) (is_get hkx))
          have cv0 := (eY.trans hEk).cell (HSr.out.cell k (.int .i64 v[k]) (by
            have := Hv.out
            subst this
            exact is_get hkv))
          have hxk : x.getD k 0 = x[k] := getD_get hkx 0
          have hvk : v.getD k 0 = v[k] := getD_get hkv 0
          obtain ⟨p, hp⟩ : ∃ p, p = x[k] := ⟨_, rfl⟩
          obtain ⟨q, hq⟩ : ∃ q, q = v[k] := ⟨_, rfl⟩
          rw [← hp] at cx0 hxk
          rw [← hq] at cv0 hvk
          obtain ⟨s, hs⟩ : ∃ s, s = sumZ (fun t => x.getD t 0 * v.getD t 0) k := ⟨_, rfl⟩
          have hs1 : sumZ (fun t => x.getD t 0 * v.getD t 0) (k + 1) = s + q * p := by rw [sumZ, ← hs, hxk, hvk, Int.mul_comm]
          have b0 := Hbi.out k
          have b1 := Hbi.out (k + 1)
          rw [← hs] at b0 ⊢
          rw [hs1] at b1
          have hkb : k * 1000000000000 ≤ 4 * 1000000000000 := Nat.mul_le_mul_right _ (by omega)
          have hkb1 : (k + 1) * 1000000000000 ≤ 5 * 1000000000000 := Nat.mul_le_mul_right _ (by omega)
          have hm : IntKind.i64.wrap (q * p) = q * p := IntWalk.i64_in _ (by omega)
          have ha : IntKind.i64.wrap (s + q * p) = s + q * p := IntWalk.i64_in _ (by omega)
          have Hs1 := Lib.hid hs1
          clear hp hq hs hxk hvk hkx hkv b0 b1 hs1 hkb hkb1
          go_wp2_with fail
          go_quiet (fail)
          have hEk := hEk.drewN nq
          go_wp2_with fail
          go_roundw
          case rel => exact ⟨k + 1, by omega, by go_num, by rw [Hs1.out], hEk⟩
          case measure => simp [intOf] <;> omega
        · obtain rfl : k = P.length := by omega
          have hki : ¬ (P.length : Int) < (P.length : Int) := by omega
          have hEU := hE.trans hEk
          have HVZ := Lib.hid (HVr.out.ext hEk)
          have hUs := hEU.size
          obtain ⟨z, hz⟩ : ∃ z, z = sumZ (fun t => x.getD t 0 * v.getD t 0) P.length := ⟨_, rfl⟩
          have Htk2 := Lib.hid (show (tmpL M x).take (i + 1) = (tmpL M x).take i ++ [z] by rw [hz]; exact Htk.out)
          rw [← hz]
          clear hz hkl Hbi yr ur u0 u2 u3 y0 y2 y3
          go_wp2_with (at_builtin; refine app_int rfl _ _ 34 Tryz.underlying34 rfl rfl (HVZ.out.ext ((Ext.refl _).alloc _)) rfl (b := U.heap.size) (z := z) (by go_simp) (by rw [Hil.out]; omega) (by simp; omega) ?_; intro gg cap2 w8 hO8 hB8 hG8; rw [Hil.out, ← Htk2.out] at hO8; rw [Hil.out])
          have hE8 : Ext X w8 := Below.trans (hEU.alloc _) hB8
          have HO8 := Lib.hid hO8
          clear hG8 hB8 hO8
          go_wp2_with fail
          go_roundw
          case rel => exact ⟨i + 1, by omega, by go_num, HO8, hE8⟩
          case measure => simp [intOf] <;> omega
    · obtain rfl : i = M.length := by omega
      have hii : ¬ (M.length : Int) < (M.length : Int) := by omega
      have HVf := Lib.hid (show RowV X.heap.size Y u5 (tmpL M x) by have := HVr.out; rw [← Htl.out, List.take_length] at this; exact this)
      obtain ⟨va, vl, vc, rfl⟩ := RowV.slice HVf.out
      clear HVr hlt
      go_wp2_with fail
      have d0 : Ext Y Y.drew := (Ext.refl Y).drew
      refine wp_region_held_tail (S := fun W => Ext Y W) 9 (by kernel_rfl) (by simp) ?_
      intro inv
      generalize Y.drew = Y1 at *
      refine wpAnyLH_take (i := 0) (v := .pointer (some ⟨w.heap.size, 3, none⟩)) rfl (by kernel_rfl) (fun _ _ _ h => h) (.inl ⟨by rfl, fun W hW => by go_simp⟩) d0 inv ?_
      intro inv
      go_simp
      refine wpAnyLH_take (i := 1) (v := .slice sg lg cg) rfl (by kernel_rfl) (fun _ _ _ h => h) (.inl ⟨by rfl, fun W hW => by have z0 := hW.cell y3; go_simp⟩) d0 inv ?_
      intro inv
      go_simp
      refine wpAnyLH_take (i := 2) (v := .slice va vl vc) rfl (by kernel_rfl) (fun _ _ _ h => h) (.inl ⟨by rfl, fun W hW => by go_simp⟩) d0 inv ?_
      intro inv
      go_simp
      refine wpAnyLH_take (i := 4) (v := .pointer (some ⟨w.heap.size, 0, none⟩)) rfl (by kernel_rfl) (fun _ _ _ h => h) (.inl ⟨by rfl, fun W hW => by go_simp⟩) d0 inv ?_
      intro inv
      go_simp
      refine wpAnyLH_take (i := 5) (v := .pointer (some ⟨w.heap.size, 0, none⟩)) rfl (by kernel_rfl) (fun _ _ _ h => h) (.inl ⟨by rfl, fun W hW => by go_simp⟩) d0 inv ?_
      intro inv
      go_simp
      refine wpAnyLH_take (i := 6) (v := .slice sp P.length cp) rfl (by kernel_rfl) (fun _ _ _ h => h) (.inl ⟨by rfl, fun W hW => by have z0 := hW.cell y0; go_simp⟩) d0 inv ?_
      intro inv
      go_simp
      refine wpAnyLH_take (i := 7) (v := .int .i64 P.length) rfl (by kernel_rfl) (fun _ _ _ h => h) (.inl ⟨by rfl, fun W hW => by go_simp⟩) d0 inv ?_
      intro inv
      go_simp
      refine wpAnyLH_oneI (i := 3) rfl (by kernel_rfl) inv (fun inv K0 hK0 => ?_)
      go_simp
      refine (Hfac.out _ _ (eY.trans d0) (HVf.out.row.ext d0)).mono ?_
      rintro e Y2 ⟨⟨u, rfl, hu⟩, hG1⟩
      have d1 := d0.trans hG1
      have Hu := Lib.hid hu.read
      obtain ⟨ua, ul, uc, rfl⟩ := hu.slice
      refine hK0 _ _ d1 ?_
      clear hK0 hu
      refine wpAnyLH_oneI (i := 8) rfl (by kernel_rfl) inv (fun inv K0 hK0 => ?_)
      go_simp
      refine (Hcmb.out _ _ (eY.trans d1) Hu.out).mono ?_
      rintro e Y3 ⟨⟨gq, rfl, hO⟩, hG2⟩
      have d2 := d1.trans hG2
      have HO := Lib.hid (hO.mono (B' := w.heap.size) (by have := eY.size; have := d1.size; omega))
      refine hK0 _ _ d2 ?_
      clear hK0 hO
      refine wpAnyLH_end (by kernel_rfl) ?_
      have e9 := eY.trans d2
      clear inv d0 d1 d2 hG1 hG2 Hfac Hcmb Hu HVf
      go_wp2_with fail
      go_ret
      exact ⟨⟨gq, rfl, HO.out⟩, e9⟩
theorem cmb_minus {a b : List Rat} {n : Nat} (ha : a.length = n) : cmbQ [a, b] [1, -1] n = subTo a b n := by
  refine List.ext_getElem (by simp [ha]) fun c h1 h2 => ?_
  have hc : c < n := by simpa using h1
  rw [cmbQ_get, subTo_get, if_pos hc]
  show ((0 + a.getD c 0 * 1) + b.getD c 0 * (-1) : Rat) = a.getD c 0 - b.getD c 0
  grind
theorem sz2N {W : World} {b : Nat} {r0 r1 : Rat} (h0 : W.cell? ⟨b, 0, none⟩ = some (I r0.num)) (h1 : W.cell? ⟨b, 1, none⟩ = some (I r0.den)) (h2 : W.cell? ⟨b, 2, none⟩ = some (I r1.num)) (h3 : W.cell? ⟨b, 3, none⟩ = some (I r1.den)) : SzR W (.slice (some ⟨b, 0, none⟩) 2 2) [r0, r1] := by
  refine ⟨_, b, 2, rfl, Nat.le_refl _, fun _ => rfl, fun i hi => ?_⟩
  have hi3 : i < 2 := hi
  rcases (show i = 0 ∨ i = 1 by omega) with rfl | rfl
  · exact ⟨h0, h1⟩
  · exact ⟨h2, h3⟩
theorem SzR.slice {w : World} {v : Value} {l : List Rat} (h : SzR w v l) : ∃ a c, v = .slice a l.length c := by
  obtain ⟨a, b, c, e, _⟩ := h
  exact ⟨a, c, e⟩
set_option maxRecDepth 100000 in
set_option maxHeartbeats 4000000 in
theorem minus24_any {w : World} {va vb : Value} {la lb : List Rat} {n : Nat} (ha : SzR w va la) (hb : SzR w vb lb) (hla : la.length = n) (hlb : lb.length = n) (hn : n ≤ 1000) (hna : ∀ r ∈ la, NdQ 1000 r) (hnb : ∀ r ∈ lb, NdQ 1000 r) (hL : Laid w) :
    Calls Tryz.prog 20 #[va, vb] w fun e w' => (∃ g, e = .returned (slv g n n) ∧ SzO w.heap.size w' g (subTo la lb n)) ∧ Ext w w' := by
  have hw1 := Lib.hid (fun W (hW : Ext w W) => whole24_any (n := 1) (by omega) (hL.ext hW))
  have hwm := Lib.hid (fun W (hW : Ext w W) => whole24_any (n := -1) (by omega) (hL.ext hW))
  rw [RV_one] at hw1
  rw [RV_m1] at hwm
  have HL := Lib.hid hL
  have Ha := Lib.hid ha
  have Hb := Lib.hid hb
  have Hcm := Lib.hid (fun W v fv (hW : Ext w W) (hG : GnR W v [la, lb]) (hf : SzR W fv [1, -1]) => combine24_any (np := n) hG hf (by simp [hla, hlb]) (by simp) (fun l hl => by
    simp only [List.mem_cons, List.not_mem_nil, or_false] at hl
    rcases hl with rfl | rfl
    · exact hna
    · exact hnb) (fun r hr => by
    simp only [List.mem_cons, List.not_mem_nil, or_false] at hr
    rcases hr with rfl | rfl
    · exact NdQ.one (by omega)
    · exact (NdQ.one (E := 1000) (by omega)).neg) hn (by simp) (hL.ext hW))
  rw [cmb_minus hla] at Hcm
  obtain ⟨xa, ca, rfl⟩ := ha.slice
  obtain ⟨xb, cb, rfl⟩ := hb.slice
  rw [hla, hlb] at *
  have hX := (Ext.refl w).alloc (.cells #[.slice xa n ca, .slice xb n cb] 47)
  have c0 : (w.alloc (.cells #[.slice xa n ca, .slice xb n cb] 47)).cell? ⟨w.heap.size, 0, none⟩ = some (.slice xa n ca) := by go_simp
  have c1 : (w.alloc (.cells #[.slice xa n ca, .slice xb n cb] 47)).cell? ⟨w.heap.size, 1, none⟩ = some (.slice xb n cb) := by go_simp
  have Hg := Lib.hid (gn2N c0 c1 (Ha.out.ext hX) (Hb.out.ext hX))
  clear hna hnb hL c0 c1 ha hb
  go_enter Tryz.func20, Tryz.ntmps20
  go_wp2_with fail
  refine (hw1.out _ hX).mono ?_
  rintro e X1 ⟨rfl, hE1⟩
  have e1 := hX.trans hE1
  go_wp2_with fail
  refine (hwm.out _ e1).mono ?_
  rintro e X2 ⟨rfl, hE2⟩
  have e2 := e1.trans hE2
  have eA := (Ext.refl X2).alloc (.cells #[.string ⟨#[49]⟩, .string ⟨#[49]⟩, .string ⟨#[45, 49]⟩, .string ⟨#[49]⟩] 70)
  have hf : SzR (X2.alloc (.cells #[.string ⟨#[49]⟩, .string ⟨#[49]⟩, .string ⟨#[45, 49]⟩, .string ⟨#[49]⟩] 70)) (.slice (some ⟨X2.heap.size, 0, none⟩) 2 2) [1, -1] := sz2N (by rw [I_one1.1]; go_simp) (by rw [I_one1.2]; go_simp) (by rw [I_m1.1]; go_simp) (by rw [I_m1.2]; go_simp)
  have hc := Lib.hid (Hcm.out _ _ _ (e2.trans eA) (Hg.out.ext ((hE1.trans hE2).trans eA)) hf)
  have eB := e2.trans eA
  have HBs := Lib.hid eB.size
  clear hf hE1 hE2 e1 e2 eA hw1 hwm Hcm Hg hX
  go_wp2_with fail
  refine hc.out.mono ?_
  rintro e X3 ⟨⟨g, rfl, hO⟩, hE3⟩
  have HO := Lib.hid (hO.mono (B' := w.heap.size) HBs.out)
  clear hO hc
  go_wp2_with fail
  go_ret
  exact ⟨⟨g, rfl, HO.out⟩, eB.trans hE3⟩
end Go.Proofs.YtdidbebgbinncaaGreatDoor
namespace Go.Proofs.YtdidbebgbinncaaGreatDoor
open Go.RowKit Go.Sort
theorem Tw.neg {A : Nat} {a : Rat} (h : Tw A a) : Tw A (-a) := by
  obtain ⟨m, rfl, h2⟩ := h
  refine ⟨-m, ?_, by omega⟩
  rw [Rat.intCast_neg]; grind
theorem Tw.sub {A B : Nat} {a b : Rat} (h : Tw A a) (k : Tw B b) : Tw (A + B) (a - b) := by
  rw [show a - b = a + -b by grind]; exact h.add k.neg
theorem Tw.int {K : Nat} {z : Int} (h : z.natAbs ≤ K) : Tw (12 * K) (z : Rat) := by
  refine ⟨z * 12, ?_, by omega⟩
  rw [Rat.intCast_mul]
  have : ((12 : Int) : Rat) = 12 := rfl
  grind
theorem tuL_tw {A B : Nat → Nat → Int} {np k : Nat} {M : Mx} {x : List Int} (hs : smallB (tmpL M x) = true) : ∀ r ∈ tuL np M (mkG A B np k) x, Tw (k * (480 * 1000000000)) r := fun r hr => by
  have := cmbQ_tw (G := mkG A B np k) (x := tmpL M x) (n := np) (A := 480) (K := 1000000000) (fun l hl => (mkG_tw l hl).2) (fun z hz => by have := smallB_iff.1 hs z hz; omega) r hr
  rwa [mkG_length] at this
theorem big30 : (10 : Nat) ^ 30 = 1000000000000000000000000000000 := by decide
theorem tuL_sz {A B : Nat → Nat → Int} {np k : Nat} {M : Mx} {x : List Int} (hk : k ≤ 4) (h : tuE np M x = 0) : szE (tuL np M (mkG A B np k) x) = 0 := by
  refine szE_sh fun r hr => (tuL_tw (tuE_zero h).2 r hr).sm ?_
  have h1 : k * (480 * 1000000000) ≤ 4 * (480 * 1000000000) := Nat.mul_le_mul_right _ hk
  have := big30
  omega
theorem erL_sz {A B : Nat → Nat → Int} {np k : Nat} {M : Mx} {x : List Int} (hk : k ≤ 4) (h : tuE np M x = 0) : szE (erL np M (mkG A B np k) x) = 0 := by
  refine szE_sh fun r hr => ?_
  unfold erL subTo at hr
  obtain ⟨c, _, rfl⟩ := List.mem_map.1 hr
  have h1 : Tw (k * (480 * 1000000000)) ((tuL np M (mkG A B np k) x).getD c 0) := by
    rw [List.getD_eq_getElem?_getD]
    by_cases h2 : c < (tuL np M (mkG A B np k) x).length
    · rw [List.getElem?_eq_getElem h2, Option.getD_some]; exact tuL_tw (tuE_zero h).2 _ (List.getElem_mem h2)
    · rw [List.getElem?_eq_none (by omega)]; exact Tw.zero _
  have hx := (mzE_zero (tuE_zero h).1).2
  have h2 : Tw (12 * 1000) (if c < np then (nbL x).getD c 0 else 0) := by
    split
    · rw [List.getD_eq_getElem?_getD]
      by_cases h2 : c < (nbL x).length
      · rw [List.getElem?_eq_getElem h2, Option.getD_some]
        obtain ⟨z, hz, e⟩ := List.mem_map.1 (List.getElem_mem h2)
        rw [show (nbL x)[c] = (z : Rat) from e.symm]
        exact Tw.int (by have := hx z hz; omega)
      · rw [List.getElem?_eq_none (by omega)]; exact Tw.zero _
    · exact Tw.zero _
  refine (h1.sub h2).sm ?_
  have h3 : k * (480 * 1000000000) ≤ 4 * (480 * 1000000000) := Nat.mul_le_mul_right _ hk
  have := big30
  omega
theorem of_no {w w' : World} {np : Nat} {M : Mx} {G : List (List Rat)} {x : List Int} {e : Ending} (h : OfPost w np M G x e w') (h0 : tuE np M x ≠ 0) : e = .returned (.tuple #[.slice none 0 0, .int .i64 (tuE np M x)]) ∧ Ext w w' := by
  obtain ⟨h1, ⟨_, h2⟩ | ⟨h2, _⟩ | ⟨h2, _⟩⟩ := h
  · exact ⟨h2, h1⟩
  · exact absurd h2 h0
  · exact absurd h2 h0
theorem er_no {w w' : World} {np : Nat} {M : Mx} {G : List (List Rat)} {x : List Int} {e : Ending} (h : ErPost w np M G x e w') (h0 : tuE np M x ≠ 0) : e = .returned (.tuple #[.slice none 0 0, .int .i64 (tuE np M x)]) ∧ Ext w w' := by
  obtain ⟨h1, ⟨_, h2⟩ | ⟨h2, _⟩ | ⟨h2, _⟩⟩ := h
  · exact ⟨h2, h1⟩
  · exact absurd h2 h0
  · exact absurd h2 h0
theorem of_yes {w w' : World} {np : Nat} {M : Mx} {G : List (List Rat)} {x : List Int} {e : Ending} (h : OfPost w np M G x e w') (h0 : tuE np M x = 0) (hs : szE (tuL np M G x) = 0) : (∃ g, e = .returned (.tuple #[slv g np np, .int .i64 0]) ∧ SzO w.heap.size w' g (tuL np M G x)) ∧ Ext w w' := by
  obtain ⟨h1, ⟨h2, _⟩ | ⟨_, h2, _⟩ | ⟨_, _, h2⟩⟩ := h
  · exact absurd h0 h2
  · exact absurd hs h2
  · exact ⟨h2, h1⟩
theorem er_yes {w w' : World} {np : Nat} {M : Mx} {G : List (List Rat)} {x : List Int} {e : Ending} (h : ErPost w np M G x e w') (h0 : tuE np M x = 0) (hs : szE (erL np M G x) = 0) : (∃ g, e = .returned (.tuple #[slv g np np, .int .i64 0]) ∧ SzO w.heap.size w' g (erL np M G x)) ∧ Ext w w' := by
  obtain ⟨h1, ⟨h2, _⟩ | ⟨_, h2, _⟩ | ⟨_, _, h2⟩⟩ := h
  · exact absurd h0 h2
  · exact absurd hs h2
  · exact ⟨h2, h1⟩
set_option maxRecDepth 100000 in
set_option maxHeartbeats 8000000 in
theorem tis_walk {w : World} {b : Int} {rv : Value} {Z : List (List Int)} {vals : Bool} {A B : Nat → Nat → Int} (hb : 0 ≤ b ∧ b ≤ 255) (hR : RowsA w rv Z) (hB : ∀ i t, 0 ≤ B i t ∧ B i t ≤ 255) {sx : Option Addr} {nx cx : Nat} {x : List Int} (hx : RowR w (.slice sx nx cx) x) (hL : Laid w) :
    Calls Tryz.prog 3 #[planT b rv vals A B, .slice sx nx cx] w fun e w' => e = .returned (.bool true) ∧ Ext w w' := by
  have hkn := Lib.hid (fun W (hW : Ext w W) => known24_any (hL.ext hW))
  have hft := Lib.hid (fun W (hW : Ext w W) => fits24_any (b := b) (vals := vals) (A := A) (B := B) (hR.ext hW))
  have hmk := Lib.hid (fun W (hW : Ext w W) (h3 : Z.length ≤ 3) => make24_any (vals := vals) (A := A) hb (hR.ext hW) h3 hB (hL.ext hW))
  have HL := Lib.hid hL
  obtain ⟨cs, hcs⟩ : ∃ cs, Value.agg cs = planT b rv vals A B := ⟨_, rfl⟩
  have hsz : cs.size = 35 := by
    injection hcs with h
    rw [h]; rfl
  have hinf : (Tryz.prog.info? 32).map (·.size) = some cs.size := by rw [hsz]; kernel_rfl
  simp only [← hcs] at hft hmk ⊢
  clear hcs hsz hb hR hB
  have hX := (Ext.refl w).alloc (.cells cs 32)
  have hg : (w.alloc (.cells cs 32)).heap[w.heap.size]? = some (.cells cs 32 (0, 0)) := heap_alloc_new _ _
  have hlt0 : w.heap.size < (w.alloc (.cells cs 32)).heap.size := by simp
  have Hx := Lib.hid hx
  have hnx : nx = x.length := by obtain ⟨_, _, _, _, e, _⟩ := hx; injection e
  have Hnx := Lib.hid hnx
  clear hx hL hnx
  by_cases hz3 : Z.length ≤ 3
  · simp only [decide_eq_true hz3] at hft
    by_cases h8 : nx ≤ 8
    · have h8I : ¬ (8 : Int) < (nx : Int) := by omega
      have Hz3 := Lib.hid hz3
      have H8 := Lib.hid h8
      clear hz3 h8
      go_enter Tryz.func3, Tryz.ntmps3
      go_wp2_with fail
      refine (hkn.out _ hX).mono ?_
      rintro e W1 ⟨rfl, hE1⟩
      have hg1 := (hE1.block _ hlt0).trans hg
      have e1 := hX.trans hE1
      clear hg hE1 hlt0
      go_wp2_with (refine BigFrame.wpList_want (by rfl) fun K hK => wp_load_row 32 _ rfl w.heap.size rfl 32 cs (0, 0) _ hg1 Tryz.underlying32 rfl hinf (hK _ _ ?_))
      refine (hft.out _ e1).mono ?_
      rintro e W2 ⟨rfl, hE2⟩
      have hg2 := (hE2.block _ (Array.getElem?_eq_some_iff.1 hg1).1).trans hg1
      have e2 := e1.trans hE2
      clear hg1 hE2 hft
      clear hkn
      go_wp2_with (refine wpList_load_row rfl 32 _ rfl w.heap.size rfl 32 cs (0, 0) _ hg2 Tryz.underlying32 rfl hinf ?_)
      refine (hmk.out _ e2 Hz3.out).mono ?_
      rintro e W3 ⟨t, C, M, rfl, hT, hE3⟩
      obtain ⟨sp, cp, sc, lc, cc, sm, lm, cm, sg, lg, cg, rfl, hT⟩ := hT
      have e3 := e2.trans hE3
      have ea := (Ext.refl W3).alloc (.cells #[.slice sp (prL b).length cp, .slice sc lc cc, .slice sm lm cm, .slice sg lg cg] 44)
      have x0 : (W3.alloc (.cells #[.slice sp (prL b).length cp, .slice sc lc cc, .slice sm lm cm, .slice sg lg cg] 44)).cell? ⟨W3.heap.size, 0, none⟩ = some (.slice sp (prL b).length cp) := by go_simp
      have x1 : (W3.alloc (.cells #[.slice sp (prL b).length cp, .slice sc lc cc, .slice sm lm cm, .slice sg lg cg] 44)).cell? ⟨W3.heap.size, 1, none⟩ = some (.slice sc lc cc) := by go_simp
      have x2 : (W3.alloc (.cells #[.slice sp (prL b).length cp, .slice sc lc cc, .slice sm lm cm, .slice sg lg cg] 44)).cell? ⟨W3.heap.size, 2, none⟩ = some (.slice sm lm cm) := by go_simp
      have x3 : (W3.alloc (.cells #[.slice sp (prL b).length cp, .slice sc lc cc, .slice sm lm cm, .slice sg lg cg] 44)).cell? ⟨W3.heap.size, 3, none⟩ = some (.slice sg lg cg) := by go_simp
      have HT := Lib.hid (hT.ext ea)
      have e4 := e3.trans ea
      clear hmk hg2 hT ea e3 hE3 e2 e1 hinf hX
      go_wp2_with fail
      generalize W3.alloc (.cells #[.slice sp (prL b).length cp, .slice sc lc cc, .slice sm lm cm, .slice sg lg cg] 44) = X at *
      generalize W3.heap.size = b5 at *
      have hm4 := HT.out.tm.m4
      have HOf := Lib.hid (tuOf_any HT.out (Hx.out.ext e4) (HL.out.ext e4))
      by_cases h0 : tuE (prL b).length M x = 0
      · have HOf := Lib.hid (HOf.out.mono fun e w' h => of_yes h h0 (tuL_sz hm4 h0))
        have Hes := Lib.hid (erL_sz (A := A) (B := B) (k := M.length) hm4 h0)
        have H0 := Lib.hid h0
        clear h0 hm4
        refine HOf.out.mono ?_
        rintro e Y ⟨⟨g1, rfl, hO1⟩, hE5⟩
        have e5 := e4.trans hE5
        replace x0 := hE5.cell x0
        replace x1 := hE5.cell x1
        replace x2 := hE5.cell x2
        replace x3 := hE5.cell x3
        have HT5 := Lib.hid (HT.out.ext hE5)
        have HO1 := Lib.hid hO1
        have HEr := Lib.hid ((tuError_any HT5.out (Hx.out.ext e5) (HL.out.ext e5)).mono fun e w' h => er_yes h H0.out Hes.out)
        clear hO1 hE5 HOf HT e4
        go_wp2_with fail
        refine HEr.out.mono ?_
        rintro e Y2 ⟨⟨g2, rfl, hO2⟩, hE6⟩
        have e6 := e5.trans hE6
        replace x0 := hE6.cell x0
        replace x1 := hE6.cell x1
        replace x2 := hE6.cell x2
        replace x3 := hE6.cell x3
        have HT6 := Lib.hid (HT5.out.ext hE6)
        have HO1 := Lib.hid (HO1.out.ext hE6)
        have HO2 := Lib.hid hO2
        have Hmz := Lib.hid (HT6.out.tm.mchk (Hx.out.ext e6) _ (Ext.refl _))
        rw [(tuE_zero H0.out).1] at Hmz
        clear hO2 hE6 HEr HT5 e5
        go_wp2_with fail
        refine Hmz.out.mono ?_
        rintro e Y3 ⟨rfl, hE7⟩
        have e7 := e6.trans hE7
        replace x0 := hE7.cell x0
        replace x1 := hE7.cell x1
        replace x2 := hE7.cell x2
        replace x3 := hE7.cell x3
        have HT7 := Lib.hid (HT6.out.ext hE7)
        have HO1 := Lib.hid (HO1.out.ext hE7)
        have HO2 := Lib.hid (HO2.out.ext hE7)
        have Htp := Lib.hid (Temper_any HT7.out.tm (Hx.out.ext e7) (HL.out.ext e7))
        have Hbg := Lib.hid (mzE_bg (tuE_zero H0.out).1 (by have := HT7.out.tm.ok.p4; omega))
        have Hsm := Lib.hid (tuE_zero H0.out).2
        clear hE7 Hmz HT6 e6
        go_wp2_with fail
        refine Htp.out.mono ?_
        rintro e Y4 ⟨hE8, (⟨_, _, v9, rfl, hv9⟩ | ⟨_, q, _⟩ | ⟨q, _⟩)⟩
        · obtain ⟨va, vl, vc, rfl⟩ := RowV.slice hv9
          have e8 := e7.trans hE8
          replace x0 := hE8.cell x0
          replace x1 := hE8.cell x1
          replace x2 := hE8.cell x2
          replace x3 := hE8.cell x3
          have HT8 := Lib.hid (HT7.out.ext hE8)
          have HO1 := Lib.hid (HO1.out.ext hE8)
          have HO2 := Lib.hid (HO2.out.ext hE8)
          have Hsf := Lib.hid (sizeOf24_any HT8.out (Hx.out.ext e8) H0.out (HL.out.ext e8))
          clear hE8 Htp HT7 e7 hv9
          go_wp2_with fail
          refine Hsf.out.mono ?_
          rintro e Z ⟨⟨g3, rfl, hO3⟩, hE9⟩
          have e9 := e8.trans hE9
          have HO1 := Lib.hid (HO1.out.ext hE9)
          have HO2 := Lib.hid (HO2.out.ext hE9)
          have HO3 := Lib.hid hO3
          have hp4 := HT8.out.tm.ok.p4
          have hg4 : (mkG A B (prL b).length M.length).length ≤ 4 := by rw [mkG_length]; exact HT8.out.tm.m4
          have Hjs := Lib.hid (fun W (hW : Ext w W) => just24_any (Hx.out.ext hW) (by have := H8.out; have := Hnx.out; omega) (fun z hz => by have := (mzE_zero (tuE_zero H0.out).1).2 z hz; unfold I64; omega) (HL.out.ext hW))
          have Hmi := Lib.hid (fun W vb (hW : Ext w W) (ha : SzR W (slv g3 (prL b).length (prL b).length) (tuL (prL b).length M (mkG A B (prL b).length M.length) x)) (hb : SzR W vb (nbL x)) => minus24_any (n := (prL b).length) ha hb (tuL_length _ _ _ _) (by rw [nbL_length]; exact (mzE_zero (tuE_zero H0.out).1).1) (by omega) (fun r hr => (tuL_nd HT8.out.sh Hsm.out hg4 r hr).mono (by omega)) (nbL_nd (fun z hz => by have := (mzE_zero (tuE_zero H0.out).1).2 z hz; omega) (by omega)) (HL.out.ext hW))
          have Hdef : Hid (subTo (tuL (prL b).length M (mkG A B (prL b).length M.length) x) (nbL x) (prL b).length = erL (prL b).length M (mkG A B (prL b).length M.length) x) := Lib.hid rfl
          simp only [Hdef.out] at Hmi
          have Hl1 := Lib.hid (tuL_length (prL b).length M (mkG A B (prL b).length M.length) x)
          have Hl2 := Lib.hid (erL_length (prL b).length M (mkG A B (prL b).length M.length) x)
          have Hp4 := Lib.hid hp4
          generalize erL (prL b).length M (mkG A B (prL b).length M.length) x = l2 at *
          generalize tuL (prL b).length M (mkG A B (prL b).length M.length) x = l1 at *
          have Hq1 := Lib.hid (fun W va vb (ha : SzR W va l1) (hb : SzR W vb l1) => Same24_any ha hb (by have := Hl1.out; omega))
          have Hq2 := Lib.hid (fun W va vb (ha : SzR W va l2) (hb : SzR W vb l2) => Same24_any ha hb (by have := Hl2.out; omega))
          simp only [decide_true] at Hq1 Hq2
          clear hO3 hE9 Hsf HT8 e8 hg4 hp4 x0 x1 x2 x3 Hdef
          go_wp2_with fail
          refine (Hq1.out Z _ _ (by have := HO1.out.val.read; rwa [Hl1.out] at this) (by have := HO3.out.val.read; rwa [Hl1.out] at this)).mono ?_
          rintro e Z2 ⟨rfl, d1⟩
          go_wp2_with fail
          refine (Hjs.out _ (e9.trans d1)).mono ?_
          rintro e Z3 ⟨⟨u, rfl, hu⟩, hG2⟩
          have d2 := d1.trans hG2
          have Hu := Lib.hid hu.read
          obtain ⟨ua, ul, uc, rfl⟩ := hu.slice
          clear hu
          go_wp2_with fail
          refine (Hmi.out _ _ (e9.trans d2) (by have := (HO3.out.ext d2).val.read; rwa [Hl1.out] at this) Hu.out).mono ?_
          rintro e Z4 ⟨⟨g5, rfl, hO5⟩, hG3⟩
          have d3 := d2.trans hG3
          have HO5 := Lib.hid hO5
          clear hO5
          go_wp2_with fail
          refine (Hq2.out Z4 _ _ (by have := (HO2.out.ext d3).val.read; rwa [Hl2.out] at this) (by have := HO5.out.val.read; rwa [Hl2.out] at this)).mono ?_
          rintro e Z5 ⟨rfl, hG4⟩
          have eF := e9.trans (d3.trans hG4)
          clear d1 d2 d3 hG2 hG3 hG4 Hjs Hmi Hq1 Hq2 Hu HO1 HO2 HO3 HO5
          go_wp2_with fail
          go_ret
          exact ⟨rfl, eF⟩
        · rw [Hsm.out] at q; cases q
        · exact absurd Hbg.out q
      · have HOf := Lib.hid (HOf.out.mono fun e w' h => of_no h h0)
        obtain ⟨y, hy⟩ : ∃ y, y = tuE (prL b).length M x := ⟨_, rfl⟩
        have H0 := Lib.hid h0
        have Hy := Lib.hid hy
        rw [← hy] at HOf
        have hy0 : y ≠ 0 := by rw [hy]; exact h0
        have h2 : (y == 0) = false := beq_eq_false_iff_ne.2 hy0
        have h3 : (y != 0) = true := by simp [bne, h2]
        have Hy0 := Lib.hid hy0
        clear h0 hm4 hy hy0
        refine HOf.out.mono ?_
        rintro e Y ⟨rfl, hE5⟩
        have e5 := e4.trans hE5
        replace x0 := hE5.cell x0
        replace x1 := hE5.cell x1
        replace x2 := hE5.cell x2
        replace x3 := hE5.cell x3
        have HT5 := Lib.hid (HT.out.ext hE5)
        have HEr := Lib.hid ((tuError_any HT5.out (Hx.out.ext e5) (HL.out.ext e5)).mono fun e w' h => er_no h H0.out)
        rw [← Hy.out] at HEr
        clear hE5 HOf HT e4
        go_wp2_with fail
        refine HEr.out.mono ?_
        rintro e Y2 ⟨rfl, hE6⟩
        have e6 := e5.trans hE6
        replace x0 := hE6.cell x0
        replace x1 := hE6.cell x1
        replace x2 := hE6.cell x2
        replace x3 := hE6.cell x3
        have HT6 := Lib.hid (HT5.out.ext hE6)
        have Hmz := Lib.hid (HT6.out.tm.mchk (Hx.out.ext e6) _ (Ext.refl _))
        clear hE6 HEr HT5 e5
        by_cases hm0 : mzE (prL b).length x = 0
        · have hy4 : y = 4 := by
            rw [Hy.out]; unfold tuE
            rw [if_pos hm0, if_neg]
            intro hs
            refine H0.out ?_
            unfold tuE
            rw [if_pos hm0, if_pos hs]
          rw [hm0] at Hmz
          have Hsf : Hid (smallB (tmpL M x) = false) := Lib.hid (by
            cases hs : smallB (tmpL M x) with
            | false => rfl
            | true =>
              refine absurd ?_ H0.out
              unfold tuE
              rw [if_pos hm0, if_pos hs])
          have Hbg := Lib.hid (mzE_bg hm0 (by have := HT6.out.tm.ok.p4; omega))
          subst hy4
          clear hm0 h2 h3
          go_wp2_with fail
          refine Hmz.out.mono ?_
          rintro e Y3 ⟨rfl, hE7⟩
          have e7 := e6.trans hE7
          replace x0 := hE7.cell x0
          replace x1 := hE7.cell x1
          replace x2 := hE7.cell x2
          replace x3 := hE7.cell x3
          have Htp := Lib.hid (Temper_any (HT6.out.ext hE7).tm (Hx.out.ext e7) (HL.out.ext e7))
          clear hE7 Hmz HT6 e6
          go_wp2_with fail
          refine Htp.out.mono ?_
          rintro e Y4 ⟨hE8, (⟨_, q, _⟩ | ⟨_, _, rfl⟩ | ⟨q, _⟩)⟩
          · rw [Hsf.out] at q; cases q
          · have e8 := e7.trans hE8
            clear hE8 Htp e7
            go_wp2_with fail
            go_ret
            exact ⟨rfl, e8⟩
          · exact absurd Hbg.out q
        · have hym : mzE (prL b).length x = y := by
            rw [Hy.out]; unfold tuE; rw [if_neg hm0]
          rw [hym] at Hmz
          clear hm0 hym
          go_wp2_with fail
          refine Hmz.out.mono ?_
          rintro e Y3 ⟨rfl, hE7⟩
          have e7 := e6.trans hE7
          clear hE7 Hmz HT6 e6
          go_wp2_with fail
          go_ret
          exact ⟨rfl, e7⟩
    · have h8I : (8 : Int) < (nx : Int) := by omega
      clear hz3 h8
      go_enter Tryz.func3, Tryz.ntmps3
      go_wp2_with fail
      refine (hkn.out _ hX).mono ?_
      rintro e W1 ⟨rfl, hE1⟩
      have hg1 := (hE1.block _ hlt0).trans hg
      have e1 := hX.trans hE1
      clear hg hE1 hlt0
      go_wp2_with (refine BigFrame.wpList_want (by rfl) fun K hK => wp_load_row 32 _ rfl w.heap.size rfl 32 cs (0, 0) _ hg1 Tryz.underlying32 rfl hinf (hK _ _ ?_))
      refine (hft.out _ e1).mono ?_
      rintro e W2 ⟨rfl, hE2⟩
      have hg2 := (hE2.block _ (Array.getElem?_eq_some_iff.1 hg1).1).trans hg1
      have e2 := e1.trans hE2
      clear hg1 hE2 hft
      go_wp2_with fail
      refine (hkn.out _ e2).mono ?_
      rintro e W9 ⟨rfl, hE9⟩
      go_wp2_with fail
      go_ret
      exact ⟨rfl, e2.trans hE9⟩
  · simp only [decide_eq_false hz3] at hft
    clear hz3
    go_enter Tryz.func3, Tryz.ntmps3
    go_wp2_with fail
    refine (hkn.out _ hX).mono ?_
    rintro e W1 ⟨rfl, hE1⟩
    have hg1 := (hE1.block _ hlt0).trans hg
    have e1 := hX.trans hE1
    clear hg hE1 hlt0
    go_wp2_with (refine BigFrame.wpList_want (by rfl) fun K hK => wp_load_row 32 _ rfl w.heap.size rfl 32 cs (0, 0) _ hg1 Tryz.underlying32 rfl hinf (hK _ _ ?_))
    refine (hft.out _ e1).mono ?_
    rintro e W2 ⟨rfl, hE2⟩
    have hg2 := (hE2.block _ (Array.getElem?_eq_some_iff.1 hg1).1).trans hg1
    have e2 := e1.trans hE2
    clear hg1 hE2 hft
    go_wp2_with fail
    refine (hkn.out _ e2).mono ?_
    rintro e W9 ⟨rfl, hE9⟩
    go_wp2_with fail
    go_ret
    exact ⟨rfl, e2.trans hE9⟩
end Go.Proofs.YtdidbebgbinncaaGreatDoor
namespace Go.Proofs.YtdidbebgbinncaaGreatDoor
open Go.ChangeShapes Go.WideShapes Go.ChangeAt Go.WideMaps Go.WideElems Go.RowKit Go.Deep
theorem fr_own : ownKnob Tryz.prog.godebug = none := by kernel_rfl
theorem fr_laidOut : laidOutB Tryz.prog = true := by kernel_rfl
theorem fr_pow : Tryz.prog.globalNamed "internal/strconv.uint64pow10" = some 3 := by kernel_rfl
theorem fr_powT : (Tryz.prog.globals[3]?).map (·.type) = some 317 := by kernel_rfl
theorem fr_rng : Tryz.prog.globalNamed "strconv.ErrRange" = some 1 := by kernel_rfl
theorem fr_rngT : (Tryz.prog.globals[1]?).map (·.type) = some 160 := by kernel_rfl
theorem fr_c20 : Tryz.prog.cellsOf 317 = 20 := by kernel_rfl
theorem fr_cu : Tryz.prog.cellsOf 240 = 1 := by kernel_rfl
theorem fr_cE : Tryz.prog.cellsOf 326 = 1 := by kernel_rfl
theorem fr_cS : Tryz.prog.cellsOf 9 = 1 := by kernel_rfl
theorem fr_cI : Tryz.prog.cellsOf 3 = 1 := by kernel_rfl
theorem fr_star : "*" ++ "errors.errorString" = "*errors.errorString" := by decide
theorem fr_ptr (u : TypeId) (h : Tryz.prog.typeName? 3 u = some "*errors.errorString") : u = 324 :=
  typeName_ptr_named (nm := "errors.errorString") (by rw [fr_star]; kernel_rfl) (by kernel_rfl) (by decide) u (by rw [fr_star]; exact h)
abbrev fr_list : List (String × DataW Unit) := [("math/bits.deBruijn32tab", Rows.laid_math_bits_deBruijn32tab), ("math/bits.deBruijn64tab", Rows.laid_math_bits_deBruijn64tab), ("internal/strconv.uint64pow10", Rows.laid_internal_strconv_uint64pow10), ("strconv.ErrRange", Rows.laid_strconv_ErrRange), ("strconv.ErrSyntax", Rows.laid_strconv_ErrSyntax)]
theorem fr_tab : (Rows.laid_internal_strconv_uint64pow10 : DataW Unit) = Lib.tabData .u64 Lib.pow10Tab := by kernel_rfl
theorem laid_of {W : World} (h : laidMetH Tryz.prog fr_list W) : Laid W := by
  rw [MakeChecks.laidMetH_plain _ _ _ (by kernel_rfl)] at h
  have h3 := h.tail.tail
  rw [fr_tab] at h3
  refine ⟨Lib.tabIs_of_head fr_pow fr_powT Tryz.underlying317 Tryz.underlying240 fr_cu fr_c20 h3, ?_⟩
  obtain ⟨a, s, hv, _⟩ := laid_sentinel h3.tail fr_rng fr_rngT Tryz.underlying160 fr_ptr Tryz.underlying324 Tryz.underlying326 rfl rfl Tryz.underlying9 fr_cE fr_cS
  exact ⟨_, _, hv⟩
theorem door_met (os : Os) (args : Array Value) : laidMetH Tryz.prog fr_list ((World.doorLaid Tryz.prog 400 os).forCall (fun _ _ => 0) ⟨#[], args, []⟩).memory :=
  laidMetH_of_parts3 (fuel := 8) (laidMet_of_run' 8 (by kernel_rfl) (by kernel_rfl)) (by kernel_rfl) (by kernel_rfl)
theorem row_open {W : World} {A : Option Addr} {L C : Nat} {Z : List Int} {base : Nat} (h1 : L ≤ C) (h2 : Z.length = C) (h3 : A = none → C = 0) (h4 : ∀ a', A = some a' → base ≤ a'.block ∧ ∀ c, c < C → W.cell? (a'.add c) = some (.int .i64 (Z.getD c 0))) : RowR W (.slice A L C) (Z.take L) := by
  have hl : (Z.take L).length = L := by rw [List.length_take]; omega
  cases A with
  | none =>
    have hC := h3 rfl
    refine ⟨none, 0, 0, C, by rw [hl], by rw [hl]; exact h1, fun h => ?_, fun i x hx => ?_⟩
    · rw [is_length, hl] at h; omega
    · have := (List.getElem?_eq_some_iff.1 hx).1
      rw [is_length, hl] at this; omega
  | some a =>
    obtain ⟨_, hc⟩ := h4 a rfl
    have hsp : 0 < L → a.spot = none := fun h => by simpa [Addr.add] using World.cell?_spot (hc 0 (by omega))
    obtain ⟨b, o, sp⟩ := a
    refine ⟨some ⟨b, o, sp⟩, b, o, C, by rw [hl], by rw [hl]; exact h1, fun h => ?_, fun i x hx => ?_⟩
    · rw [is_length, hl] at h
      have := hsp h
      simp at this
      rw [this]
    · have hi := (List.getElem?_eq_some_iff.1 hx).1
      rw [is_length, hl] at hi
      have := hsp (by omega)
      simp at this
      subst this
      rw [is_get (by rw [hl]; exact hi)] at hx
      have e := Option.some.inj hx
      rw [← e, ← add_plain, hc i (by omega), List.getElem_take, getD_get (by omega)]
end Go.Proofs.YtdidbebgbinncaaGreatDoor
namespace Go.Proofs.YtdidbebgbinncaaGreatDoor
open Go.ChangeShapes Go.WideShapes Go.ChangeAt Go.WideMaps Go.WideElems Go.RowKit Go.Deep
theorem fr_c8 : Tryz.prog.cellsOf 25 = 1 := by kernel_rfl
theorem take_one {l : List Value} {k : Nat} {x : Value} (h : (l.drop k).take 1 = [x]) : l[k]? = some x := by
  have := congrArg (·[0]?) h
  simpa [List.getElem?_take] using this
theorem i8_bounds {n : Int} (h : (Lit.int .i8 n).wf = true) : -128 ≤ n ∧ n ≤ 127 := by
  simp only [Lit.wf, Bool.and_eq_true, decide_eq_true_eq] at h
  have e1 : IntKind.i8.min = -128 := by rfl
  have e2 : IntKind.i8.max = 127 := by rfl
  omega
theorem u8_bounds {n : Int} (h : (Lit.int .u8 n).wf = true) : 0 ≤ n ∧ n ≤ 255 := by
  simp only [Lit.wf, Bool.and_eq_true, decide_eq_true_eq] at h
  have e1 : IntKind.u8.min = 0 := by rfl
  have e2 : IntKind.u8.max = 255 := by rfl
  omega
theorem i8_cells {H : Type} {enc : TypeId × Value → H} {W : World} {base : Nat} {sp : Nat → Bool} {held : Bool} {fuel n : Nat} {t : TypeId} {l : List Value} {x : DataW H × List MemPlace} (ht : Tryz.prog.underlying t = some (.array n 25))
    (h : DataW.trod enc Tryz.prog W base sp held fuel t l = some x) : ∀ j, j < n → ∃ z : Int, l[j]? = some (.int .i8 z) ∧ -128 ≤ z ∧ z ≤ 127 := by
  obtain ⟨xs, m, _, _, _, hxl, hx⟩ := DataW.trod_array ht h
  intro j hj
  have h1 := hx j hj
  rw [fr_c8, Nat.mul_one, List.getElem?_eq_getElem (by omega)] at h1
  obtain ⟨z, hz, _, hw⟩ := DataW.trod_int Tryz.underlying25 h1
  exact ⟨z, take_one hz, i8_bounds hw⟩
end Go.Proofs.YtdidbebgbinncaaGreatDoor
