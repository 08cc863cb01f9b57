/- Part 3, beside the shared parts, of the proof of the claim: contracts and plain laws; no condition. -/
import Derived.Test.YtcklioolpicmcaaGreatDoorV01
import Derived.Test.YtcklioolpicmcaaGreatDoorV02
import Derived.Test.YtcklioolpicmcaaGreatDoorV03
import Derived.Test.YtcklioolpicmcaaGreatDoorV04
import Derived.Test.YtcklioolpicmcaaGreatDoorV05
import Derived.Test.YtcklioolpicmcaaGreatDoorV06
import Derived.Test.YtcklioolpicmcaaGreatDoorV07
import Derived.Test.YtcklioolpicmcaaGreatDoorV08
import Derived.Test.YtcklioolpicmcaaGreatDoorV09
import Derived.Test.YtcklioolpicmcaaGreatDoorV10
import Derived.Test.YtcklioolpicmcaaGreatDoorV11
import Derived.Test.YtcklioolpicmcaaGreatDoorV12
import Derived.Test.YtcklioolpicmcaaGreatDoorV13
import Derived.Test.YtcklioolpicmcaaGreatDoorV14
import Derived.Test.YtcklioolpicmcaaGreatDoorV15
import Derived.Test.YtcklioolpicmcaaGreatDoorV16
import Derived.Test.YtcklioolpicmcaaGreatDoorV17
import Derived.Test.YtcklioolpicmcaaGreatDoorV18
import Derived.Test.YtcklioolpicmcaaGreatDoorV19
import Derived.Test.YtcklioolpicmcaaGreatDoorV20
import Derived.Test.YtcklioolpicmcaaGreatDoorV21
import Derived.Test.YtcklioolpicmcaaGreatDoorV22
import Derived.Test.YtcklioolpicmcaaGreatDoorV23
import Derived.Test.YtcklioolpicmcaaGreatDoorV24
import Derived.Test.YtcklioolpicmcaaGreatDoorV25
import Derived.Test.YtcklioolpicmcaaGreatDoorV26
import Derived.Test.YtcklioolpicmcaaGreatDoorV27
import Derived.Test.YtcklioolpicmcaaGreatDoorV28
import Derived.Test.YtcklioolpicmcaaGreatDoorV29
import Derived.Test.YtcklioolpicmcaaGreatDoorV30
import Derived.Test.YtcklioolpicmcaaGreatDoorW01
import Derived.Test.YtcklioolpicmcaaGreatDoorW02
import Derived.BigQuiet
namespace Go.Proofs.YtcklioolpicmcaaGreatDoor
open Go.RowKit Go.Sort
set_option maxRecDepth 100000 in
set_option maxHeartbeats 1000000 in
theorem Pivot08_at {w : World} {v : Value} {x : List Int} {p : Nat} (hR : RowR w v x) (hp : p < x.length) (hl : x.length ≤ 1000000) (hn0 : x.getD p 0 ≠ 0) (hz : ∀ i, i < p → x.getD i 0 = 0) :
    Calls Tryz.prog 52 #[v] w fun e w' => e = .returned (.int .i64 p) ∧ Ext w w' := by
  obtain ⟨sa, gb, go, cap, rfl, hc, hS⟩ := hR
  obtain ⟨n, hn⟩ : ∃ n, n = x.length := ⟨_, rfl⟩
  rw [← hn] at hp hl ⊢
  have HS := Lib.hid hS
  have Hn := Lib.hid hn
  have H0 := Lib.hid hn0
  have HZ := Lib.hid hz
  obtain rfl := HS.out.addr (by rw [is_length, ← Hn.out]; omega)
  clear hS hn hc hn0 hz
  go_enter Tryz.func52, Tryz.ntmps52
  go_wp2_with fail
  go_loopw [3] (fun idx wr => ∃ i : Nat, i ≤ p ∧ idx = .int .i64 i ∧ Ext w wr) (fun idx _ => n - (intOf idx).toNat)
  case atStart => exact ⟨0, by omega, by go_num, Ext.refl _⟩
  case round =>
    obtain ⟨i, hi, rfl, hE⟩ := hrel
    generalize wr = X at *
    have hii : (i : Int) < (n : Int) := by omega
    have c1 := (HS.out.ext hE).cell i (.int .i64 (x[i]'(by rw [← Hn.out]; omega))) (is_get (by rw [← Hn.out]; omega))
    obtain ⟨z, hz⟩ : ∃ z, z = x[i]'(by rw [← Hn.out]; omega) := ⟨_, rfl⟩
    rw [← hz] at c1
    have Hz := Lib.hid (show x.getD i 0 = z by rw [hz, getD_get (by rw [← Hn.out]; omega)])
    clear hz
    by_cases hip : i = p
    · subst hip
      have hzn : z ≠ 0 := by rw [← Hz.out]; exact H0.out
      have hb1 : (z == 0) = false := beq_eq_false_iff_ne.2 hzn
      have hb2 : (z != 0) = true := by simp [bne, hb1]
      go_wp2_with fail
      go_ret
      exact ⟨rfl, hE⟩
    · have hz0 : z = 0 := by rw [← Hz.out]; exact HZ.out i (by omega)
      subst hz0
      go_wp2_with fail
      go_roundw
      case rel => exact ⟨i + 1, by omega, by go_num, hE⟩
      case measure => simp [intOf] <;> omega
set_option maxRecDepth 100000 in
set_option maxHeartbeats 2000000 in
theorem Reduced08_at {w : World} {v vx : Value} {K : Mx} {x : List Int} {n : Nat} {ps : List Nat} (hK : MatR w v K) (hI : IsH n ps K) (hX : RowR w vx x) (hxl : x.length = n) (hn : n ≤ 1000000) (hkl : K.length ≤ 1000000)
    (hr : ∀ i, i < K.length → 0 ≤ x.getD (ps.getD i 0) 0 ∧ x.getD (ps.getD i 0) 0 < eM K i (ps.getD i 0)) :
    Calls Tryz.prog 56 #[v, vx] w fun e w' => e = .returned (.bool true) ∧ Ext w w' := by
  have hpv := Lib.hid (fun W u k (hk : k < K.length) (h : RowR W u K[k]) => Pivot08_at (p := ps.getD k 0) h (by rw [hI.rect _ (List.getElem_mem hk)]; exact hI.lt k hk) (by rw [hI.rect _ (List.getElem_mem hk)]; exact hn) (by have := hI.pos k hk; unfold eM at this; rw [getD_get hk] at this; omega) (fun i hi => by have := hI.left k hk i hi; unfold eM at this; rwa [getD_get hk] at this))
  obtain ⟨sa, gb, go, cap, vs, rfl, hcap, hvl, hS, hrow⟩ := hK
  obtain ⟨sx, gx, ox, cx, rfl, hcx, hSx⟩ := hX
  have HI := Lib.hid hI
  have HS := Lib.hid hS
  have HV := Lib.hid hvl
  have HR := Lib.hid hrow
  have HX := Lib.hid hSx
  have Hr := Lib.hid hr
  have Hxl := Lib.hid hxl
  rw [hxl] at hcx ⊢
  obtain ⟨m, hm⟩ : ∃ m, m = K.length := ⟨_, rfl⟩
  rw [← hm] at hkl ⊢
  have Hm := Lib.hid hm
  clear hI hS hvl hrow hSx hr hxl hcap hm
  go_enter Tryz.func56, Tryz.ntmps56
  go_wp2_with fail
  go_loopw [5] (fun idx wr => ∃ i : Nat, i ≤ m ∧ idx = .int .i64 i ∧ Ext w wr) (fun idx _ => m - (intOf idx).toNat)
  case atStart => exact ⟨0, by omega, by go_num, Ext.refl _⟩
  case round =>
    obtain ⟨i, hi, rfl, hE⟩ := hrel
    generalize wr = X at *
    by_cases hlt : i < m
    · have hii : (i : Int) < (m : Int) := by omega
      have hiK : i < K.length := by rw [← Hm.out]; exact hlt
      obtain rfl := HS.out.addr (by rw [HV.out]; omega)
      obtain ⟨sr, br, or, cr, hro, hrc, hSr⟩ := MatR.row HS.out HV.out HR.out hiK
      have hln : K[i].length = n := HI.out.rect _ (List.getElem_mem hiK)
      have HRo := Lib.hid (show RowR w (.slice sr n cr) K[i] from ⟨sr, br, or, cr, by rw [hln], hrc, hSr⟩)
      obtain ⟨p, hp⟩ : ∃ p, p = ps.getD i 0 := ⟨_, rfl⟩
      have hpn : p < n := by rw [hp]; exact HI.out.lt i hiK
      have hpv1 := Lib.hid (fun W (hW : Ext w W) => hpv.out W _ i hiK (HRo.out.ext hW))
      rw [← hp] at hpv1
      rw [hln] at hro
      have hro1 := hE.cell hro
      obtain rfl := hSr.addr (by rw [is_length, hln]; omega)
      obtain rfl := HX.out.addr (by rw [is_length, Hxl.out]; omega)
      have cP := hSr.cell p (.int .i64 (K[i][p]'(by rw [hln]; exact hpn))) (is_get (by rw [hln]; exact hpn))
      have cX := HX.out.cell p (.int .i64 (x[p]'(by rw [Hxl.out]; exact hpn))) (is_get (by rw [Hxl.out]; exact hpn))
      obtain ⟨a, ha⟩ : ∃ a, a = K[i][p]'(by rw [hln]; exact hpn) := ⟨_, rfl⟩
      obtain ⟨b, hb⟩ : ∃ b, b = x[p]'(by rw [Hxl.out]; exact hpn) := ⟨_, rfl⟩
      rw [← ha] at cP
      rw [← hb] at cX
      have hk := Hr.out i hiK
      rw [← hp] at hk
      unfold eM at hk
      rw [getD_get hiK, getD_get (show p < K[i].length by rw [hln]; exact hpn), getD_get (show p < x.length by rw [Hxl.out]; exact hpn), ← ha, ← hb] at hk
      obtain ⟨k1, k2⟩ := hk
      have d1 : decide (b < 0) = false := decide_eq_false (by omega)
      have d2 : decide (b ≥ a) = false := decide_eq_false (by omega)
      have d3 : decide (a ≤ b) = false := decide_eq_false (by omega)
      have CP := Lib.hid cP
      have CX := Lib.hid cX
      have CR := Lib.hid hro
      have hpi : (p : Int) < (n : Int) := by omega
      clear hp ha hb hrc hSr hln hro cP cX HRo
      go_wp2_with fail
      refine (hpv1.out X hE).mono ?_
      rintro e X1 ⟨rfl, hE1⟩
      have hX1 := hE.trans hE1
      have cP := hX1.cell CP.out
      have cX := hX1.cell CX.out
      have cR := hX1.cell CR.out
      clear hE1 hro1 hE
      go_wp2_with fail
      go_quiet (fail)
      go_wp2_with fail
      go_roundw
      case rel => exact ⟨i + 1, by omega, by go_num, hX1.drewN _⟩
      case measure => simp [intOf] <;> omega
    · have hii : ¬ (i : Int) < (m : Int) := by omega
      go_wp2_with fail
      go_ret
      exact ⟨rfl, hE⟩
set_option maxRecDepth 100000 in
set_option maxHeartbeats 4000000 in
theorem IsForm08_at {w : World} {v : Value} {K : Mx} {n : Nat} {ps : List Nat} (hK : MatR w v K) (hI : IsH n ps K) (hn : n ≤ 1000000) (hkl : K.length ≤ 1000000) :
    Calls Tryz.prog 51 #[v] w fun e w' => e = .returned (.bool true) ∧ Ext w w' := by
  have hpv := Lib.hid (fun W u k (hk : k < K.length) (h : RowR W u K[k]) => Pivot08_at (p := ps.getD k 0) h (by rw [hI.rect _ (List.getElem_mem hk)]; exact hI.lt k hk) (by rw [hI.rect _ (List.getElem_mem hk)]; exact hn) (by have := hI.pos k hk; unfold eM at this; rw [getD_get hk] at this; omega) (fun i hi => by have := hI.left k hk i hi; unfold eM at this; rwa [getD_get hk] at this))
  obtain ⟨sa, gb, go, cap, vs, rfl, hcap, hvl, hS, hrow⟩ := hK
  have HI := Lib.hid hI
  have HS := Lib.hid hS
  have HV := Lib.hid hvl
  have HR := Lib.hid hrow
  obtain ⟨m, hm⟩ : ∃ m, m = K.length := ⟨_, rfl⟩
  rw [← hm] at hkl ⊢
  have Hm := Lib.hid hm
  clear hI hS hvl hrow hcap hm
  have hrw := Lib.hid (fun i (hi : i < K.length) => (show ∃ br or cr, w.cell? ⟨gb, go + i, none⟩ = some (.slice (some ⟨br, or, none⟩) n cr) ∧ RowR w (.slice (some ⟨br, or, none⟩) n cr) K[i] ∧ (∀ p (hp : p < n) , w.cell? ⟨br, or + p, none⟩ = some (.int .i64 (eM K i p))) from by
    obtain ⟨sr, br, or, cr, hro, hrc, hSr⟩ := MatR.row HS.out HV.out HR.out hi
    have hln : K[i].length = n := HI.out.rect _ (List.getElem_mem hi)
    have h0 : 0 < n := by have := HI.out.lt i hi; omega
    obtain rfl := hSr.addr (by rw [is_length, hln]; omega)
    rw [hln] at hro
    refine ⟨br, or, cr, hro, ⟨_, br, or, cr, by rw [hln], hrc, hSr⟩, fun p hp => ?_⟩
    have := hSr.cell p (.int .i64 (K[i][p]'(by rw [hln]; exact hp))) (is_get (by rw [hln]; exact hp))
    unfold eM
    rw [getD_get hi, getD_get (show p < K[i].length by rw [hln]; exact hp)]; exact this))
  go_enter Tryz.func51, Tryz.ntmps51
  go_wp2_with fail
  go_loopw [3] (fun idx wr => ∃ i : Nat, i ≤ m ∧ idx = .int .i64 i ∧ Ext w wr) (fun idx _ => m - (intOf idx).toNat)
  case atStart => exact ⟨0, by omega, by go_num, Ext.refl _⟩
  case round =>
    obtain ⟨i, hi, rfl, hE⟩ := hrel
    generalize wr = X at *
    by_cases hlt : i < m
    · have hii : (i : Int) < (m : Int) := by omega
      have hiK : i < K.length := by rw [← Hm.out]; exact hlt
      obtain rfl := HS.out.addr (by rw [HV.out]; omega)
      obtain ⟨br, or, cr, CR, HRo, CP⟩ := hrw.out i hiK
      obtain ⟨p, hp⟩ : ∃ p, p = ps.getD i 0 := ⟨_, rfl⟩
      have hpn : p < n := by rw [hp]; exact HI.out.lt i hiK
      have hpv1 := Lib.hid (fun W (hW : Ext w W) => hpv.out W _ i hiK (HRo.ext hW))
      rw [← hp] at hpv1
      have CP1 := CP p hpn
      have hpos := HI.out.pos i hiK
      rw [← hp] at hpos
      obtain ⟨a, ha⟩ : ∃ a, a = eM K i p := ⟨_, rfl⟩
      rw [← ha] at CP1 hpos
      have Ha := Lib.hid ha
      have Hp := Lib.hid hp
      have HCR := Lib.hid CR
      have HCP := Lib.hid CP1
      have hro1 := hE.cell CR
      have hpi : (p : Int) < (n : Int) := by omega
      have d1 : decide (a ≤ 0) = false := decide_eq_false (by omega)
      have d0 : decide ((p : Int) < 0) = false := decide_eq_false (by omega)
      clear hp ha CR CP CP1 HRo
      go_wp2_with fail
      refine (hpv1.out X hE).mono ?_
      rintro e X1 ⟨rfl, hE1⟩
      have hX1 := hE.trans hE1
      have cP := hX1.cell HCP.out
      have cR := hX1.cell HCR.out
      clear hE1 hro1 hE
      by_cases hi0 : i = 0
      · subst hi0
        have cR0 : X1.cell? ⟨gb, go, none⟩ = some (.slice (some ⟨br, or, none⟩) n cr) := by simpa using cR
        have HE := Lib.hid hX1
        clear hX1 cR
        go_wp2_with fail
        go_loopw [5] (fun kv wr => kv = .int .i64 0 ∧ Ext w wr) (fun _ _ => 0)
        case atStart => exact ⟨by go_num, HE.out⟩
        case round =>
          obtain ⟨rfl, hEk⟩ := hrel
          clear HE
          generalize wr = Z at *
          go_wp2_with fail
          go_roundw
          case rel => exact ⟨1, by omega, by go_num, hEk⟩
          case measure => simp [intOf] <;> omega
      · have h0i : (0 : Int) < (i : Int) := by omega
        obtain ⟨bq, oq, cq, CQ, HRq, _⟩ := hrw.out (i - 1) (by rw [← Hm.out]; omega)
        have cQ := hX1.cell CQ
        obtain ⟨q, hq⟩ : ∃ q, q = ps.getD (i - 1) 0 := ⟨_, rfl⟩
        have hqp : (q : Int) < (p : Int) := by
          have := HI.out.inc (i - 1) i (by omega) hiK
          rw [← hq, ← Hp.out] at this
          omega
        have hpvq := Lib.hid (fun W (hW : Ext w W) => hpv.out W _ (i - 1) (by rw [← Hm.out]; omega) (HRq.ext hW))
        rw [← hq] at hpvq
        have f1 : decide ((p : Int) ≤ (q : Int)) = false := decide_eq_false (by omega)
        have f2 : ¬ (p : Int) ≤ (q : Int) := by omega
        have f3 : ¬ p ≤ q := by omega
        clear CQ HRq hq
        go_wp2_with fail
        refine (hpvq.out X1 hX1).mono ?_
        rintro e X2 ⟨rfl, hE2⟩
        have HE := Lib.hid (hX1.trans hE2)
        clear hE2 cP cR cQ hX1
        go_wp2_with fail
        go_loopw [5] (fun kv wr => ∃ k : Nat, k ≤ i ∧ kv = .int .i64 k ∧ Ext w wr) (fun kv _ => i - (intOf kv).toNat)
        case atStart => exact ⟨0, by omega, by go_num, HE.out⟩
        case round =>
          obtain ⟨k, hk, rfl, hEk⟩ := hrel
          clear HE
          generalize wr = Z at *
          by_cases hki : k < i
          · have hkI : (k : Int) < (i : Int) := by omega
            have hkm : (k : Int) < (m : Int) := by omega
            obtain ⟨bk, ok, ck, CKr, _, CKp⟩ := hrw.out k (by rw [← Hm.out]; omega)
            have CK1 := CKp p hpn
            have hred := HI.out.red k i hki hiK
            rw [← Hp.out, ← Ha.out] at hred
            obtain ⟨b, hb⟩ : ∃ b, b = eM K k p := ⟨_, rfl⟩
            rw [← hb] at CK1 hred
            obtain ⟨k1, k2⟩ := hred
            have e1 := hEk.cell CKr
            have e2 := hEk.cell CK1
            have e3 := hEk.cell HCR.out
            have e4 := hEk.cell HCP.out
            have g1 : decide (b < 0) = false := decide_eq_false (by omega)
            have g2 : decide (b ≥ a) = false := decide_eq_false (by omega)
            have g3 : decide (a ≤ b) = false := decide_eq_false (by omega)
            clear hb CKr CKp CK1
            go_wp2_with fail
            go_quiet (fail)
            go_wp2_with fail
            go_roundw
            case rel => exact ⟨k + 1, by omega, by go_num, hEk.drewN _⟩
            case measure => simp [intOf] <;> omega
          · have hkI : ¬ (k : Int) < (i : Int) := by omega
            go_wp2_with fail
            go_roundw
            case rel => exact ⟨i + 1, by omega, by go_num, hEk⟩
            case measure => simp [intOf] <;> omega
    · have hii : ¬ (i : Int) < (m : Int) := by omega
      go_wp2_with fail
      go_ret
      exact ⟨rfl, hE⟩
end Go.Proofs.YtcklioolpicmcaaGreatDoor
namespace Go.Proofs.YtcklioolpicmcaaGreatDoor
open Go.RowKit Go.Sort Hnf
theorem kr_lim {N c : Nat} (hN : N ≤ 3) (hc : c ≤ 3) : 2 * (2 * bC N 30 (c + N) + 2) + 2 < LIM := by
  rcases (show N = 0 ∨ N = 1 ∨ N = 2 ∨ N = 3 by omega) with rfl | rfl | rfl | rfl <;> rcases (show c = 0 ∨ c = 1 ∨ c = 2 ∨ c = 3 by omega) with rfl | rfl | rfl | rfl <;> decide
set_option maxRecDepth 100000 in
set_option maxHeartbeats 1000000 in
theorem wide_nil {w : World} {sa : Option Addr} {cap : Nat} : Calls Tryz.prog 62 #[.slice sa 0 cap] w fun e w' => e = .returned (.tuple #[.slice none 0 0, .int .i64 0]) ∧ Ext w w' := by
  go_enter Tryz.func62, Tryz.ntmps62
  go_wp2_with fail
  go_ret2
  exact ⟨rfl, Ext.refl _⟩
set_option maxRecDepth 100000 in
set_option maxHeartbeats 1000000 in
theorem Kernel_nil {w : World} {sa : Option Addr} {cap : Nat} (hL : Laid w) :
    Calls Tryz.prog 32 #[.slice sa 0 cap] w fun e w' => ∃ u, e = .returned (.tuple #[u, .int .i64 0]) ∧ MatR w' u [] ∧ Ext w w' := by
  have hM : MatR w (.slice sa 0 cap) [] := ⟨sa, 0, 0, cap, [], rfl, Nat.zero_le _, rfl, Sl.nil _ _ _ _, fun i h => by simp at h⟩
  have hch := Lib.hid (tableCheck_any hM)
  rw [show checkM [] = 0 from rfl] at hch
  have hkn := Lib.hid (fun W => kernel_any (w := W) (v := .slice none 0 0) (H := []) (c := 0) (m := 1) ⟨none, 0, 0, 0, [], rfl, Nat.le_refl _, rfl, Sl.nil _ _ _ _, fun i h => by simp at h⟩ (fun r hr => by cases hr) (by omega) (by simp) (by omega))
  have hsm := Lib.hid (fun W v (hW : Ext w W) (hK : GridR W v []) => ssmall_any hK (by simp) (fun r hr => by cases hr) (fun r hr => by cases hr) (hL.ext hW))
  clear hM hL
  go_enter Tryz.func32, Tryz.ntmps32
  go_wp2_with fail
  refine hch.out.mono ?_
  rintro e w1 ⟨rfl, hE1⟩
  go_wp2_with fail
  refine wide_nil.mono ?_
  rintro e w2 ⟨rfl, hE2⟩
  have hX2 := hE1.trans hE2
  go_wp2_with fail
  refine (hkn.out w2).mono ?_
  rintro e w3 ⟨vk, rfl, hK, hE3⟩
  have hX3 := hX2.trans hE3
  have hs3 := Lib.hid (hsm.out w3 vk hX3 hK)
  clear hK hkn hE3 hsm hE2 hE1 hX2
  go_wp2_with fail
  refine hs3.out.mono ?_
  rintro e w4 ⟨hp, hE4⟩
  rw [if_pos (by rfl)] at hp
  obtain ⟨v, rfl, hv⟩ := hp
  have hX4 := hX3.trans hE4
  have Hv := Lib.hid hv.mat
  clear hv
  go_wp2_with fail
  go_ret2
  exact ⟨_, rfl, Hv.out, hX4⟩
theorem sv_kernel {w : World} {v : Value} {M : Mx} (hM : MatR w v M) (h : SmM M) (h0 : 0 < M.length) (hL : Laid w) :
    Calls Tryz.prog 32 #[v] w fun e w' => ∃ u H, e = .returned (.tuple #[u, .int .i64 0]) ∧ HnfOf (ncols M + M.length) (wideM M) H ∧ MatR w' u (krn (ncols M) H) ∧ Ext w w' := by
  refine (Kernel_any hM (sm_check h) h0 rfl (kr_lim h.n3 h.c3) hL).mono ?_
  rintro e w' ⟨H, hH, hp, hE⟩
  have hs : smallM (krn (ncols M) H) = true := by
    unfold smallM
    exact List.all_eq_true.2 (krn_small h.rect h.n3 h.ent hH)
  rw [if_pos hs] at hp
  obtain ⟨u, rfl, hu⟩ := hp
  exact ⟨u, H, rfl, hH, hu.mat, hE⟩
def SvRes (M H : Mx) (b : List Int) (f : Bool) (x : List Int) : Prop :=
  (f = true ↔ Span (latM M) (vr b)) ∧ (f = false → x = []) ∧ (f = true → x = solX (ncols M) H M.length b ∧ x.length = M.length ∧ (∀ z ∈ x, -1000000000 ≤ z ∧ z ≤ 1000000000) ∧ cmbL M x (ncols M) = b)
theorem sv_solve {w : World} {vm vb : Value} {M : Mx} {b : List Int} (hM : MatR w vm M) (hb : RowR w vb b) (h : SmM M) (h0 : 0 < M.length) (hbl : b.length = ncols M) (hbb : ∀ z ∈ b, -40 ≤ z ∧ z ≤ 40) (hL : Laid w) :
    Calls Tryz.prog 20 #[vm, vb] w fun e w' => ∃ u f x H, e = .returned (.tuple #[u, .bool f, .int .i64 0]) ∧ HnfOf (ncols M + M.length) (wideM M) H ∧ RowR w' u x ∧ SvRes M H b f x ∧ Ext w w' := by
  have hck := sm_check h
  have hcr : chkRow b = 0 := chkRow_small (by rw [hbl]; exact h.c3) (fun z hz => by have := hbb z hz; omega)
  have hs0 : sizeE M b = 0 := by
    unfold sizeE
    rw [if_pos hck, if_pos hcr, if_neg]
    rintro ⟨_, h2⟩
    exact h2 hbl
  refine (Solve_any (c := ncols M) (E := bC M.length 30 (ncols M + M.length)) hM hb hs0 h0 rfl rfl (sc_lim h.n3 h.c3) hL).mono ?_
  rintro e w' ⟨H, hH, hE, hp⟩
  have hz := sol_zero h.rect hH hbl
  rcases hp with ⟨h4, rfl⟩ | ⟨h4, _, u, rfl, hu⟩ | ⟨h3, h4, _⟩
  · rw [hz] at h4
    exact ⟨_, false, [], H, rfl, hH, ⟨none, 0, 0, 0, rfl, Nat.le_refl _, Sl.nil _ _ _ _⟩, ⟨⟨fun e => (by cases e), fun e => absurd e h4⟩, fun _ => rfl, fun e => (by cases e)⟩, hE⟩
  · obtain ⟨k2, k3⟩ := solX_gen h.rect h.n3 h.ent hH hbl hbb h4
    refine ⟨u, true, _, H, rfl, hH, hu.row, ⟨⟨fun _ => hz.1 h4, fun _ => rfl⟩, fun e => (by cases e), fun _ => ⟨rfl, solX_length hbl, fun z hzz => ?_, ?_⟩⟩, hE⟩
    · have := List.all_eq_true.1 k2 z hzz
      unfold grt at this
      simp only [Bool.not_eq_true', decide_eq_false_iff_not] at this
      omega
    · unfold cmbL
      apply List.ext_getElem (by simp [hbl])
      intro i h1 h2
      simp only [List.getElem_map, List.getElem_range]
      rw [k3 i (by omega)]
      unfold vr
      rw [getD_get h2]
  · have := (solX_gen h.rect h.n3 h.ent hH hbl hbb h3).1
    rw [this] at h4; cases h4
theorem more_dvm {M : Mx} {b : List Int} (h : SmM M) (h0 : 0 < M.length) (hbl : b.length = ncols M) (hbb : ∀ z ∈ b, -40 ≤ z ∧ z ≤ 40) : DvM (M ++ [b]) (M.length + 1) (ncols M) 40 := by
  refine ⟨by simp, ?_, ?_, by have := h.n3; omega, by have := h.c3; omega, by omega, fun r hr z hz => ?_, fun k h1 h2 => ?_⟩
  · unfold ncols
    rw [List.getD_eq_getElem?_getD, List.getElem?_append_left h0, ← List.getD_eq_getElem?_getD]
  · intro r hr
    rcases List.mem_append.1 hr with hr | hr
    · exact h.rect r hr
    · rw [List.mem_singleton.1 hr]; exact hbl
  · rcases List.mem_append.1 hr with hr | hr
    · have := h.ent r hr z hz; omega
    · rw [List.mem_singleton.1 hr] at hz
      have := hbb z hz; omega
  · have := h.c3
    rcases (show k = 0 ∨ k = 1 ∨ k = 2 ∨ k = 3 by omega) with rfl | rfl | rfl | rfl <;> decide
theorem sv_fac {M : Mx} {b : List Int} (h : SmM M) (h0 : 0 < M.length) (hc0 : 0 < ncols M) (hbl : b.length = ncols M) (hbb : ∀ z ∈ b, -40 ≤ z ∧ z ≤ 40) {j j' : Nat} (hj : DvJ M M.length (ncols M) j) (hj' : DvJ (M ++ [b]) (M.length + 1) (ncols M) j') :
    qfL M M.length (ncols M) j = qfL (M ++ [b]) (M.length + 1) (ncols M) j' ↔ Span (latM M) (vr b) := by
  have hD := more_dvm h h0 hbl hbb
  rw [qf_iff rfl h.rect (by have := h.n3; omega) h.c3 hD.hn hD.rect hD.n4 h.c3 hj hj', ← inl_span h.n3, (h.smf h0 hc0).inl (fun k hk => vr_ge (by have := h.c3; omega))]
  have he := snoc_eqv (b := b) h.n3
  exact ⟨fun e => e.trans he.symm, fun e => e.trans he⟩
end Go.Proofs.YtcklioolpicmcaaGreatDoor
namespace Go.Proofs.YtcklioolpicmcaaGreatDoor
open Go.RowKit Go.Sort
theorem sv_all {M : Mx} {b : List Int} (h : SmM M) (h0 : 0 < M.length) (hbl : b.length = ncols M) (hbb : ∀ z ∈ b, -40 ≤ z ∧ z ≤ 40) {j j' : Nat} (hj : DvJ M M.length (ncols M) j) (hj' : DvJ (M ++ [b]) (M.length + 1) (ncols M) j') :
    qfL M M.length (ncols M) j = qfL (M ++ [b]) (M.length + 1) (ncols M) j' ↔ Hnf.Span (latM M) (vr b) := by
  rcases Nat.eq_zero_or_pos (ncols M) with hc | hc
  · have k1 : j = 0 := by have := hj.2.1; omega
    have k2 : j' = 0 := by have := hj'.2.1; omega
    subst k1 k2
    refine ⟨fun _ => ?_, fun _ => rfl⟩
    have hb : b = [] := List.eq_nil_of_length_eq_zero (by omega)
    subst hb
    have : vr [] = fun _ => 0 := by funext j; unfold vr; simp
    rw [this]; exact .zero
  · exact sv_fac h h0 hc hbl hbb hj hj'
theorem hnf_same {n : Nat} {M H H' : Mx} (h : HnfOf n M H) (h' : HnfOf n M H') : H = H' := h.unique h' (fun _ hv => .mem hv) (fun _ hv => .mem hv)
section
variable {w : World} {ops : Array Oper} {rest : List Oper} {o : Oper} {a : Act} {Q : Exit → Act → World → Prop}
theorem app_rowsG (hw : Region.wanted o (yielded ops a.tmps) = true) (s x : Operand) (t : TypeId) (ht : Tryz.prog.underlying t = some (.slice 3)) (ho : o.op = .call { callee := .builtin .append, args := #[s, x], argTypes := #[t, t] })
    {B : Nat} {v : Value} {r : List Int} (hs : a.eval s = v) (hown : RowV B w v r) {vx : Value} {z : List Int} (hx : a.eval x = vx) (hR : RowR w vx z) (hl : r.length + z.length ≤ 1000000000) (hB : B ≤ w.heap.size)
    (h : ∀ v' w', RowV B w' v' (r ++ z) → Below B w w' → w.grownBy w' v.ownBlock → wpList Tryz.prog ops Q rest (a.put o.dst v') w') : wpList Tryz.prog ops Q (o :: rest) a w :=
  BigFrame.wpList_want hw fun K hK => by
    obtain ⟨v', w', h1, h2, h3⟩ := run_row t o.type ht hown hR hl hB
    unfold Oper.wp execOp
    simp only [ho, resolve, invoke, builtin, Sem.run_bind, Sem.run_pure, Result.andThen_ok, List.map_toArray, List.map_cons, List.map_nil, hs, hx, h1]
    exact hK _ _ (h v' w' h2 (Below.grown (Below.refl _ _) h3 hB (fun q hq => (World.ownsRow.lt hown q hq).1)) h3)
end
theorem isH_le {n : Nat} {ps : List Nat} {K : Mx} (h : IsH n ps K) : K.length ≤ n := by
  have hk : ∀ i, i < K.length → i ≤ ps.getD i 0 := fun i => by
    induction i with
    | zero => intro _; omega
    | succ i ih => intro hi; have := ih (by omega); have := h.inc i (i + 1) (by omega) hi; omega
  rcases Nat.eq_zero_or_pos K.length with h0 | h0
  · omega
  · have := hk (K.length - 1) (by omega)
    have := h.lt (K.length - 1) (by omega)
    omega
set_option maxRecDepth 100000 in
set_option maxHeartbeats 8000000 in
theorem ss_nil {w : World} {R C : Nat} {e0 e1 e2 e3 e4 e5 e6 e7 e8 z0 z1 z2 : Int} (hG : ShapeV #[.int .u8 R, .int .u8 C, .int .i8 e0, .int .i8 e1, .int .i8 e2, .int .i8 e3, .int .i8 e4, .int .i8 e5, .int .i8 e6, .int .i8 e7, .int .i8 e8] R C [e0, e1, e2, e3, e4, e5, e6, e7, e8])
    (h0 : -128 ≤ z0 ∧ z0 ≤ 127) (h1 : -128 ≤ z1 ∧ z1 ≤ 127) (h2 : -128 ≤ z2 ∧ z2 ≤ 127) (hL : Laid w) (hNz : (shM [e0, e1, e2, e3, e4, e5, e6, e7, e8] (C % 4) (R % 4)).length = 0) :
    Calls Tryz.prog 9 #[.agg #[.int .u8 R, .int .u8 C, .int .i8 e0, .int .i8 e1, .int .i8 e2, .int .i8 e3, .int .i8 e4, .int .i8 e5, .int .i8 e6, .int .i8 e7, .int .i8 e8], .agg #[.int .i8 z0, .int .i8 z1, .int .i8 z2]] w fun e w' => e = .returned (.bool true) ∧ Ext w w' := by
  have HL := Lib.hid hL
  have hMe := List.eq_nil_of_length_eq_zero hNz
  have hmk := Lib.hid (fun W => Make08_any (w := W) hG)
  rw [hMe] at hmk
  have hrw := Lib.hid (fun W => Row08_any (w := W) (n := 0) (by omega) h0 h1 h2)
  have hco := Lib.hid (fun W vm (a : MatR W vm []) => Columns08_any a)
  clear hG h0 h1 h2 hL hMe hNz
  obtain ⟨N, HN⟩ : ∃ N, Hid (N = List.length ([] : Mx)) := ⟨_, Lib.hid rfl⟩
  go_enter Tryz.func9, Tryz.ntmps9
  have hX : Ext w ((w.alloc (.cells #[.int .u8 R, .int .u8 C, .int .i8 e0, .int .i8 e1, .int .i8 e2, .int .i8 e3, .int .i8 e4, .int .i8 e5, .int .i8 e6, .int .i8 e7, .int .i8 e8] 25)).alloc (.cells #[.int .i8 z0, .int .i8 z1, .int .i8 z2] 26)) := ((Ext.refl w).alloc _).alloc _
  go_wp2_with fail
  refine (known08_any (HL.out.ext hX)).mono ?_
  rintro e w1 ⟨rfl, hE1⟩
  have s0 : w1.cell? ⟨w.heap.size, 0, none⟩ = some (.int .u8 R) := hE1.cell (by go_simp)
  have s1 : w1.cell? ⟨w.heap.size, 1, none⟩ = some (.int .u8 C) := hE1.cell (by go_simp)
  have s2 : w1.cell? ⟨w.heap.size, 2, none⟩ = some (.int .i8 e0) := hE1.cell (by go_simp)
  have s3 : w1.cell? ⟨w.heap.size, 3, none⟩ = some (.int .i8 e1) := hE1.cell (by go_simp)
  have s4 : w1.cell? ⟨w.heap.size, 4, none⟩ = some (.int .i8 e2) := hE1.cell (by go_simp)
  have s5 : w1.cell? ⟨w.heap.size, 5, none⟩ = some (.int .i8 e3) := hE1.cell (by go_simp)
  have s6 : w1.cell? ⟨w.heap.size, 6, none⟩ = some (.int .i8 e4) := hE1.cell (by go_simp)
  have s7 : w1.cell? ⟨w.heap.size, 7, none⟩ = some (.int .i8 e5) := hE1.cell (by go_simp)
  have s8 : w1.cell? ⟨w.heap.size, 8, none⟩ = some (.int .i8 e6) := hE1.cell (by go_simp)
  have s9 : w1.cell? ⟨w.heap.size, 9, none⟩ = some (.int .i8 e7) := hE1.cell (by go_simp)
  have s10 : w1.cell? ⟨w.heap.size, 10, none⟩ = some (.int .i8 e8) := hE1.cell (by go_simp)
  have t0 : w1.cell? ⟨w.heap.size + 1, 0, none⟩ = some (.int .i8 z0) := hE1.cell (by go_simp)
  have t1 : w1.cell? ⟨w.heap.size + 1, 1, none⟩ = some (.int .i8 z1) := hE1.cell (by go_simp)
  have t2 : w1.cell? ⟨w.heap.size + 1, 2, none⟩ = some (.int .i8 z2) := hE1.cell (by go_simp)
  have hX1 := hX.trans hE1
  clear hX hE1
  go_wp2_with fail
  refine (hmk.out w1).mono ?_
  rintro e w2 ⟨vm, rfl, hvm, hE2⟩
  have hMr := hvm.mat
  obtain ⟨sm, gm, om, cm, vsm, rfl, hcm, _, _, _⟩ := id hMr
  have HMr := Lib.hid hMr
  replace t0 := hE2.cell t0
  replace t1 := hE2.cell t1
  replace t2 := hE2.cell t2
  have hX2 := hX1.trans hE2
  clear s0 s1 s2 s3 s4 s5 s6 s7 s8 s9 s10 hvm hMr hE2 hX1 hmk
  go_wp2_with fail
  have d2 : Ext w2 w2.drew := (Ext.refl w2).drew
  refine wp_region_held_tail (S := fun W => Ext w2 W) 3 (by kernel_rfl) (by simp) ?_
  intro inv
  refine wpAnyLH_take (i := 0) (v := .agg #[.int .i8 z0, .int .i8 z1, .int .i8 z2]) rfl (by kernel_rfl) (fun _ _ _ h => h) (.inl ⟨by rfl, fun W hW => by have q0 := hW.cell t0; have q1 := hW.cell t1; have q2 := hW.cell t2; go_simp⟩) d2 inv ?_
  intro inv
  go_simp
  refine wpAnyLH_take (i := 1) (v := .slice sm 0 cm) rfl (by kernel_rfl) (fun _ _ _ h => h) (.inl ⟨by rfl, fun W hW => by go_simp⟩) d2 inv ?_
  intro inv
  go_simp
  refine wpAnyLH_one (i := 2) rfl (by kernel_rfl) (fun K2 hK2 => ?_)
  go_simp
  refine (hco.out _ _ (HMr.out.ext d2)).mono ?_
  rintro e w3 ⟨rfl, hE3⟩
  have d3 := d2.trans hE3
  refine hK2 _ _ d3 ?_
  clear hK2 hE3
  refine wpAnyLH_end (by kernel_rfl) ?_
  go_wp2_with fail
  refine (hrw.out w3).mono ?_
  rintro e w4 ⟨vl, rfl, hvl, hE4⟩
  have hRl := hvl.row
  have d4 := d3.trans hE4
  have hX4 := hX2.trans d4
  replace HMr := Lib.hid (HMr.out.ext d4)
  clear d2 d3 d4 hvl hE4 t0 t1 t2 hX2 hco hrw
  have HRl := Lib.hid hRl
  have hs0 : sizeE [] (row8 [z0, z1, z2] 0) = 0 := by simp [row8]; rfl
  clear hRl
  go_wp2_with fail
  refine (Solve_nil HRl.out hs0 (by simp [row8])).mono ?_
  rintro e w5 ⟨rfl, hE5⟩
  rw [show zeroB (row8 [z0, z1, z2] 0) = true by simp [row8]; rfl]
  have hX5 := hX4.trans hE5
  clear hE5 hX4 HRl
  go_wp2_with fail
  refine (Kernel_nil (HL.out.ext hX5)).mono ?_
  rintro e w6 ⟨vk, rfl, hk, hE6⟩
  have hX6 := hX5.trans hE6
  clear hE6 hk hX5
  go_wp2_with fail
  go_ret
  exact ⟨rfl, hX6⟩
set_option maxRecDepth 100000 in
set_option maxHeartbeats 8000000 in
theorem ss_walk {w : World} {R C : Nat} {e0 e1 e2 e3 e4 e5 e6 e7 e8 z0 z1 z2 : Int} (hG : ShapeV #[.int .u8 R, .int .u8 C, .int .i8 e0, .int .i8 e1, .int .i8 e2, .int .i8 e3, .int .i8 e4, .int .i8 e5, .int .i8 e6, .int .i8 e7, .int .i8 e8] R C [e0, e1, e2, e3, e4, e5, e6, e7, e8])
    (h0 : -128 ≤ z0 ∧ z0 ≤ 127) (h1 : -128 ≤ z1 ∧ z1 ≤ 127) (h2 : -128 ≤ z2 ∧ z2 ≤ 127) (hL : Laid w) :
    Calls Tryz.prog 9 #[.agg #[.int .u8 R, .int .u8 C, .int .i8 e0, .int .i8 e1, .int .i8 e2, .int .i8 e3, .int .i8 e4, .int .i8 e5, .int .i8 e6, .int .i8 e7, .int .i8 e8], .agg #[.int .i8 z0, .int .i8 z1, .int .i8 z2]] w fun e w' => e = .returned (.bool true) ∧ Ext w w' := by
  have HL := Lib.hid hL
  by_cases hNz : (shM [e0, e1, e2, e3, e4, e5, e6, e7, e8] (C % 4) (R % 4)).length = 0
  · exact ss_nil hG h0 h1 h2 hL hNz
  obtain ⟨M, hMd⟩ : ∃ M, M = shM [e0, e1, e2, e3, e4, e5, e6, e7, e8] (C % 4) (R % 4) := ⟨_, rfl⟩
  rw [← hMd] at hNz
  have hmk := Lib.hid (fun W => Make08_any (w := W) hG)
  rw [← hMd] at hmk
  have hSm : SmM M := by rw [hMd]; exact sh_small _ _ _
  obtain ⟨N, hN⟩ : ∃ N, N = M.length := ⟨_, rfl⟩
  obtain ⟨c, hc⟩ : ∃ c, c = ncols M := ⟨_, rfl⟩
  have hN3 : N ≤ 3 := by rw [hN]; exact hSm.n3
  have hN0 : 0 < N := by omega
  have hc3 : c ≤ 3 := by rw [hc]; exact hSm.c3
  have hrw := Lib.hid (fun W => Row08_any (w := W) (n := c) hc3 h0 h1 h2)
  obtain ⟨b, hb⟩ : ∃ b, b = row8 [z0, z1, z2] c := ⟨_, rfl⟩
  rw [← hb] at hrw
  have hbl : b.length = c := by rw [hb, row8_length (by simpa using hc3)]
  have hbb : ∀ z ∈ b, -40 ≤ z ∧ z ≤ 40 := by rw [hb]; exact row8_b
  have hco := Lib.hid (fun W vm (a : MatR W vm M) => Columns08_any a)
  have hso := Lib.hid (fun W vm vb (a : MatR W vm M) (r : RowR W vb b) (hL : Laid W) => sv_solve a r hSm (by omega) (by rw [hbl, hc]) hbb hL)
  have hke := Lib.hid (fun W vm (a : MatR W vm M) (hL : Laid W) => sv_kernel a hSm (by omega) hL)
  have hfa := Lib.hid (fun W vm (a : MatR W vm M) => Factors08r_any a (sm_dvm hSm))
  have hfb := Lib.hid (fun W vm (a : MatR W vm (M ++ [b])) => Factors08r_any a (more_dvm hSm (by omega) (by rw [hbl, hc]) hbb))
  have hwi := Lib.hid (fun W vm vb (a : MatR W vm M) (r : RowR W vb b) => With08_any a r (by omega))
  have hcb := Lib.hid (fun W vm vl x (a : MatR W vm M) (r : RowR W vl x) (hx : x.length = M.length) (hb : ∀ z ∈ x, -1000000000 ≤ z ∧ z ≤ 1000000000) => Combine08_any a r (hSm.cb hx hb))
  have hfc := Lib.hid (fun j j' hj hj' => sv_all (M := M) (b := b) (j := j) (j' := j') hSm (by omega) (by rw [hbl, hc]) hbb hj hj')
  have hkf := Lib.hid (fun H (hH : HnfOf (ncols M + M.length) (wideM M) H) => krn_form hSm.rect hH)
  rw [← hc] at hco hcb hfa hfb hso hke hfc hkf
  rw [← hN] at hfa hfb hfc hso hke hkf
  have HC := Lib.hid hc
  have HN := Lib.hid hN
  have Hbl := Lib.hid hbl
  clear hG h0 h1 h2 hL hMd hSm hb hbb hN hc hNz hbl
  go_enter Tryz.func9, Tryz.ntmps9
  have hX : Ext w ((w.alloc (.cells #[.int .u8 R, .int .u8 C, .int .i8 e0, .int .i8 e1, .int .i8 e2, .int .i8 e3, .int .i8 e4, .int .i8 e5, .int .i8 e6, .int .i8 e7, .int .i8 e8] 25)).alloc (.cells #[.int .i8 z0, .int .i8 z1, .int .i8 z2] 26)) := ((Ext.refl w).alloc _).alloc _
  go_wp2_with fail
  refine (known08_any (HL.out.ext hX)).mono ?_
  rintro e w1 ⟨rfl, hE1⟩
  have s0 : w1.cell? ⟨w.heap.size, 0, none⟩ = some (.int .u8 R) := hE1.cell (by go_simp)
  have s1 : w1.cell? ⟨w.heap.size, 1, none⟩ = some (.int .u8 C) := hE1.cell (by go_simp)
  have s2 : w1.cell? ⟨w.heap.size, 2, none⟩ = some (.int .i8 e0) := hE1.cell (by go_simp)
  have s3 : w1.cell? ⟨w.heap.size, 3, none⟩ = some (.int .i8 e1) := hE1.cell (by go_simp)
  have s4 : w1.cell? ⟨w.heap.size, 4, none⟩ = some (.int .i8 e2) := hE1.cell (by go_simp)
  have s5 : w1.cell? ⟨w.heap.size, 5, none⟩ = some (.int .i8 e3) := hE1.cell (by go_simp)
  have s6 : w1.cell? ⟨w.heap.size, 6, none⟩ = some (.int .i8 e4) := hE1.cell (by go_simp)
  have s7 : w1.cell? ⟨w.heap.size, 7, none⟩ = some (.int .i8 e5) := hE1.cell (by go_simp)
  have s8 : w1.cell? ⟨w.heap.size, 8, none⟩ = some (.int .i8 e6) := hE1.cell (by go_simp)
  have s9 : w1.cell? ⟨w.heap.size, 9, none⟩ = some (.int .i8 e7) := hE1.cell (by go_simp)
  have s10 : w1.cell? ⟨w.heap.size, 10, none⟩ = some (.int .i8 e8) := hE1.cell (by go_simp)
  have t0 : w1.cell? ⟨w.heap.size + 1, 0, none⟩ = some (.int .i8 z0) := hE1.cell (by go_simp)
  have t1 : w1.cell? ⟨w.heap.size + 1, 1, none⟩ = some (.int .i8 z1) := hE1.cell (by go_simp)
  have t2 : w1.cell? ⟨w.heap.size + 1, 2, none⟩ = some (.int .i8 z2) := hE1.cell (by go_simp)
  have hX1 := hX.trans hE1
  clear hX hE1
  go_wp2_with fail
  refine (hmk.out w1).mono ?_
  rintro e w2 ⟨vm, rfl, hvm, hE2⟩
  have hMr := hvm.mat
  obtain ⟨sm, gm, om, cm, vsm, rfl, hcm, _, _, _⟩ := id hMr
  rw [← HN.out] at hMr ⊢
  have HMr := Lib.hid hMr
  replace t0 := hE2.cell t0
  replace t1 := hE2.cell t1
  replace t2 := hE2.cell t2
  have hX2 := hX1.trans hE2
  clear s0 s1 s2 s3 s4 s5 s6 s7 s8 s9 s10 hvm hMr hE2 hX1 hmk
  go_wp2_with fail
  have d2 : Ext w2 w2.drew := (Ext.refl w2).drew
  refine wp_region_held_tail (S := fun W => Ext w2 W) 3 (by kernel_rfl) (by simp) ?_
  intro inv
  refine wpAnyLH_take (i := 0) (v := .agg #[.int .i8 z0, .int .i8 z1, .int .i8 z2]) rfl (by kernel_rfl) (fun _ _ _ h => h) (.inl ⟨by rfl, fun W hW => by have q0 := hW.cell t0; have q1 := hW.cell t1; have q2 := hW.cell t2; go_simp⟩) d2 inv ?_
  intro inv
  go_simp
  refine wpAnyLH_take (i := 1) (v := .slice sm N cm) rfl (by kernel_rfl) (fun _ _ _ h => h) (.inl ⟨by rfl, fun W hW => by go_simp⟩) d2 inv ?_
  intro inv
  go_simp
  refine wpAnyLH_one (i := 2) rfl (by kernel_rfl) (fun K2 hK2 => ?_)
  go_simp
  refine (hco.out _ _ (HMr.out.ext d2)).mono ?_
  rintro e w3 ⟨rfl, hE3⟩
  have d3 := d2.trans hE3
  refine hK2 _ _ d3 ?_
  clear hK2 hE3
  refine wpAnyLH_end (by kernel_rfl) ?_
  go_wp2_with fail
  refine (hrw.out w3).mono ?_
  rintro e w4 ⟨vl, rfl, hvl, hE4⟩
  have hRl := hvl.row
  have d4 := d3.trans hE4
  have hX4 := hX2.trans d4
  replace HMr := Lib.hid (HMr.out.ext d4)
  clear d2 d3 d4 hvl hE4 t0 t1 t2 hX2 hco hrw
  obtain ⟨sb, gb, ob, cb, rfl, hcb4, _⟩ := id hRl
  have hRl' := hRl
  rw [Hbl.out] at hRl' ⊢
  have HB := Lib.hid hRl'
  clear hRl hRl' hcb4
  go_wp2_with fail
  refine (hso.out _ _ _ HMr.out HB.out (HL.out.ext hX4)).mono ?_
  rintro e w5 ⟨u, f, x, H, rfl, hH, hu, hres, hE5⟩
  obtain ⟨su, gu, ou, cu, rfl, hcu, _⟩ := id hu
  have HU := Lib.hid hu
  have HH := Lib.hid hH
  have Hres := Lib.hid hres
  have hX5 := hX4.trans hE5
  replace HMr := Lib.hid (HMr.out.ext hE5)
  replace HB := Lib.hid (HB.out.ext hE5)
  clear hE5 hX4 hu hH hres hcu hso
  go_wp2_with fail
  refine (hke.out _ _ HMr.out (HL.out.ext hX5)).mono ?_
  rintro e w6 ⟨vk, H', rfl, hH', hk, hE6⟩
  obtain rfl := hnf_same HH.out hH'
  obtain ⟨K, hKd⟩ : ∃ K, K = krn c H := ⟨_, rfl⟩
  obtain ⟨ps, hI, _⟩ := hkf.out H hH'
  rw [← hKd] at hk hI
  have hkl : K.length ≤ N := isH_le hI
  have hxr : f = true → ∀ i, i < K.length → 0 ≤ x.getD (ps.getD i 0) 0 ∧ x.getD (ps.getD i 0) 0 < eM K i (ps.getD i 0) := fun hf i hi => by
    obtain ⟨e, _, _, _⟩ := Hres.out.2.2 hf
    rw [e, ← HC.out, ← HN.out]
    unfold solX
    rw [← hKd]
    exact redX_range hI (by rw [negM_length, List.length_drop, solL_length, Hbl.out]; omega) i hi
  have Hxr := Lib.hid hxr
  have HI := Lib.hid hI
  obtain ⟨sk, ck, rfl⟩ : ∃ sk ck, vk = .slice sk K.length ck := by obtain ⟨sk, gk, ok, ck, vsk, e, _⟩ := hk; exact ⟨sk, ck, e⟩
  obtain ⟨k, hkd⟩ : ∃ k, k = K.length := ⟨_, rfl⟩
  rw [← hkd] at hk hkl ⊢
  have Hk := Lib.hid hkd
  have HK := Lib.hid hk
  have hX6 := hX5.trans hE6
  replace HMr := Lib.hid (HMr.out.ext hE6)
  replace HB := Lib.hid (HB.out.ext hE6)
  replace HU := Lib.hid (HU.out.ext hE6)
  clear hE6 hk hX5 hH' hI hke hkf hxr hKd hkd
  cases f
  · have hx0 : x = [] := Hres.out.2.1 rfl
    subst hx0
    go_wp2_with fail
    refine (hfa.out _ _ HMr.out).mono ?_
    rintro e w7 ⟨qa, rfl, ⟨j, hqa, hj⟩, hE7⟩
    have HQa := Lib.hid hqa.row
    have Hj := Lib.hid hj
    have hX7 := hX6.trans hE7
    replace HMr := Lib.hid (HMr.out.ext hE7)
    replace HB := Lib.hid (HB.out.ext hE7)
    replace HU := Lib.hid (HU.out.ext hE7)
    replace HK := Lib.hid (HK.out.ext hE7)
    clear hqa hj hE7 hX6 hfa
    go_wp2_with fail
    refine (hwi.out _ _ _ HMr.out HB.out).mono ?_
    rintro e w8 ⟨vw, rfl, hvw, hE8⟩
    have HW := Lib.hid hvw
    have hX8 := hX7.trans hE8
    replace HMr := Lib.hid (HMr.out.ext hE8)
    replace HB := Lib.hid (HB.out.ext hE8)
    replace HU := Lib.hid (HU.out.ext hE8)
    replace HK := Lib.hid (HK.out.ext hE8)
    replace HQa := Lib.hid (HQa.out.ext hE8)
    clear hvw hE8 hX7 hwi
    go_wp2_with fail
    refine (hfb.out _ _ HW.out).mono ?_
    rintro e w9 ⟨qb, rfl, ⟨j', hqb, hj'⟩, hE9⟩
    have HQb := Lib.hid hqb.row
    have hX9 := hX8.trans hE9
    replace HMr := Lib.hid (HMr.out.ext hE9)
    replace HB := Lib.hid (HB.out.ext hE9)
    replace HU := Lib.hid (HU.out.ext hE9)
    replace HK := Lib.hid (HK.out.ext hE9)
    replace HQa := Lib.hid (HQa.out.ext hE9)
    have hsm := Same08_any HQa.out HQb.out (by rw [qfL_length]; have := Hj.out.1; omega)
    rw [show decide (qfL M N c j = qfL (M ++ [b]) (N + 1) c j') = false from by
      have h1 := hfc.out j j' Hj.out hj'
      have h2 := Hres.out.1
      exact decide_eq_false fun e => by have := h2.2 (h1.1 e); cases this] at hsm
    have HSm := Lib.hid hsm
    clear hqb hj' hE9 hX8 hfb hfc hsm HW Hj
    go_wp2_with fail
    refine HSm.out.mono ?_
    rintro e w10 ⟨rfl, hE10⟩
    have hX10 := hX9.trans hE10
    replace HMr := Lib.hid (HMr.out.ext hE10)
    replace HB := Lib.hid (HB.out.ext hE10)
    replace HU := Lib.hid (HU.out.ext hE10)
    replace HK := Lib.hid (HK.out.ext hE10)
    clear hE10 hX9 HSm HQa HQb
    go_wp2_with fail
    go_ret
    exact ⟨rfl, hX10⟩
  · obtain ⟨_, hxl, hxb, hxe⟩ := Hres.out.2.2 rfl
    rw [← HN.out] at hxl
    have Hxr2 := Lib.hid (Hxr.out rfl)
    have Hxl := Lib.hid hxl
    have Hxb := Lib.hid hxb
    have Hxe := Lib.hid hxe
    replace HU := Lib.hid (show RowR w6 (.slice su N cu) x by have := HU.out; rwa [hxl] at this)
    rw [hxl]
    clear hxb hxe hxl Hxr
    go_wp2_with fail
    refine (hfa.out _ _ HMr.out).mono ?_
    rintro e w7 ⟨qa, rfl, ⟨j, hqa, hj⟩, hE7⟩
    have HQa := Lib.hid hqa.row
    have Hj := Lib.hid hj
    have hX7 := hX6.trans hE7
    replace HMr := Lib.hid (HMr.out.ext hE7)
    replace HB := Lib.hid (HB.out.ext hE7)
    replace HU := Lib.hid (HU.out.ext hE7)
    replace HK := Lib.hid (HK.out.ext hE7)
    clear hqa hj hE7 hX6 hfa
    go_wp2_with fail
    refine (hwi.out _ _ _ HMr.out HB.out).mono ?_
    rintro e w8 ⟨vw, rfl, hvw, hE8⟩
    have HW := Lib.hid hvw
    have hX8 := hX7.trans hE8
    replace HMr := Lib.hid (HMr.out.ext hE8)
    replace HB := Lib.hid (HB.out.ext hE8)
    replace HU := Lib.hid (HU.out.ext hE8)
    replace HK := Lib.hid (HK.out.ext hE8)
    replace HQa := Lib.hid (HQa.out.ext hE8)
    clear hvw hE8 hX7 hwi
    go_wp2_with fail
    refine (hfb.out _ _ HW.out).mono ?_
    rintro e w9 ⟨qb, rfl, ⟨j', hqb, hj'⟩, hE9⟩
    have HQb := Lib.hid hqb.row
    have hX9 := hX8.trans hE9
    replace HMr := Lib.hid (HMr.out.ext hE9)
    replace HB := Lib.hid (HB.out.ext hE9)
    replace HU := Lib.hid (HU.out.ext hE9)
    replace HK := Lib.hid (HK.out.ext hE9)
    replace HQa := Lib.hid (HQa.out.ext hE9)
    have hsm := Same08_any HQa.out HQb.out (by rw [qfL_length]; have := Hj.out.1; omega)
    rw [show decide (qfL M N c j = qfL (M ++ [b]) (N + 1) c j') = true from by
      have h1 := hfc.out j j' Hj.out hj'
      have h2 := Hres.out.1
      exact decide_eq_true (h1.2 (h2.1 rfl))] at hsm
    have HSm := Lib.hid hsm
    clear hqb hj' hE9 hX8 hfb hfc hsm HW Hj
    go_wp2_with fail
    refine HSm.out.mono ?_
    rintro e w10 ⟨rfl, hE10⟩
    have hX10 := hX9.trans hE10
    replace HMr := Lib.hid (HMr.out.ext hE10)
    replace HB := Lib.hid (HB.out.ext hE10)
    replace HU := Lib.hid (HU.out.ext hE10)
    replace HK := Lib.hid (HK.out.ext hE10)
    clear hE10 hX9 HSm HQa HQb
    go_wp2_with fail
    refine (hcb.out _ _ _ _ HMr.out HU.out (by rw [Hxl.out]; exact HN.out) Hxb.out).mono ?_
    rintro e w11 ⟨vq, rfl, hvq, hE11⟩
    have hq := hvq.row
    have hxe := Hxe.out
    unfold cmbL at hxe
    rw [← HC.out] at hxe
    rw [hxe] at hq
    have HQ := Lib.hid hq
    have hX11 := hX10.trans hE11
    replace HB := Lib.hid (HB.out.ext hE11)
    replace HU := Lib.hid (HU.out.ext hE11)
    replace HK := Lib.hid (HK.out.ext hE11)
    clear hvq hq hxe hE11 hX10 hcb HMr Hxe
    go_wp2_with (at_builtin; go_loud (refine app_rowsG (by rfl) _ _ 32 Tryz.underlying32 rfl (B := w11.heap.size) rfl (row_lit0 (w := w11) (T := 3) rfl) (vx := .slice sb c cb) (by go_simp) (HB.out.ext ((Ext.refl w11).alloc _)) (by rw [Hbl.out]; simp; omega) (by simp) ?_); intro v1 w12 hV1 hB1 hG1; rw [List.nil_append] at hV1; have hE12 : Ext w11 w12 := Below.trans ((Ext.refl w11).alloc _) hB1; have HV1 := Lib.hid hV1.row; replace HU := Lib.hid (HU.out.ext hE12); replace HK := Lib.hid (HK.out.ext hE12); replace HQ := Lib.hid (HQ.out.ext hE12); have hX12 := hX11.trans hE12; clear hV1 hB1 hG1 hE12 hX11 HB)
    refine (s08_same HQ.out HV1.out (by rw [Hbl.out]; omega)).mono ?_
    rintro e w13 ⟨rfl, hE13⟩
    have hX13 := hX12.trans hE13
    replace HU := Lib.hid (HU.out.ext hE13)
    replace HK := Lib.hid (HK.out.ext hE13)
    clear hE13 hX12 HQ HV1
    go_wp2_with fail
    refine (IsForm08_at HK.out HI.out (by omega) (by rw [← Hk.out]; omega)).mono ?_
    rintro e w14 ⟨rfl, hE14⟩
    have hX14 := hX13.trans hE14
    replace HU := Lib.hid (HU.out.ext hE14)
    replace HK := Lib.hid (HK.out.ext hE14)
    clear hE14 hX13
    rcases Nat.eq_zero_or_pos k with hk0 | hk0
    · subst hk0
      go_wp2_with fail
      refine (Reduced08_at HK.out HI.out HU.out Hxl.out (by omega) (by rw [← Hk.out]; omega) Hxr2.out).mono ?_
      rintro e w15 ⟨rfl, hE15⟩
      have hX15 := hX14.trans hE15
      go_wp2_with fail
      go_ret
      exact ⟨rfl, hX15⟩
    · have hk1 : ((k : Int) == 0) = false := beq_eq_false_iff_ne.2 (by omega)
      have hk2 : (k == 0) = false := beq_eq_false_iff_ne.2 (by omega)
      have hk3 : (0 : Int) < (k : Int) := by omega
      obtain ⟨sa5, gb5, go5, cap5, vs5, e5, q0, hvl5, hS5, hr5⟩ := id HK.out
      have hk4 : 0 < K.length := by rw [← Hk.out]; exact hk0
      obtain ⟨s6, b6, o6, c6, hrow6, q1, q2⟩ := MatR.row hS5 hvl5 hr5 hk4
      obtain rfl := hS5.addr (by omega)
      have hl6 : K[0].length = N := HI.out.rect _ (List.getElem_mem hk4)
      rw [hl6, Nat.add_zero] at hrow6
      simp only [Value.slice.injEq] at e5
      obtain ⟨rfl, e6, rfl⟩ := e5
      clear e6 q0 q1 q2 hS5 hr5 hvl5 hl6 hk4
      go_wp2_with fail
      refine (Reduced08_at HK.out HI.out HU.out Hxl.out (by omega) (by rw [← Hk.out]; omega) Hxr2.out).mono ?_
      rintro e w15 ⟨rfl, hE15⟩
      have hX15 := hX14.trans hE15
      go_wp2_with fail
      go_ret
      exact ⟨rfl, hX15⟩
end Go.Proofs.YtcklioolpicmcaaGreatDoor
namespace Go.Proofs.YtcklioolpicmcaaGreatDoor
open Go.ChangeShapes Go.WideShapes Go.ChangeAt Go.WideMaps Go.WideElems Go.RowKit Go.Deep
theorem okWide_arr {P : Program} {w : World} {r : Reach} {base : Nat} {t e : TypeId} {n : Nat} {v : Value} (ht : P.underlying t = some (.array n e)) (h : Value.okWide P w r base t v) : ∃ cs, v = .agg cs ∧ cs.size = P.cellsOf t := by
  simp only [Value.okWide, ht] at h
  obtain ⟨cs, h1, h2, _⟩ := h
  exact ⟨cs, h1, h2⟩
end Go.Proofs.YtcklioolpicmcaaGreatDoor
