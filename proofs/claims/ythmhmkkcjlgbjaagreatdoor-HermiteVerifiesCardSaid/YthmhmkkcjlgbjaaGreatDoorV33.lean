/- Part 33 of the proof of the claim: contracts of the functions that it reaches, and plain laws; no condition. -/
import Derived.Test.YthmhmkkcjlgbjaaGreatDoorV32
import Derived.Test.YthmhmkkcjlgbjaaGreatDoorV03
import Derived.Test.YthmhmkkcjlgbjaaGreatDoorV13
import Derived.Test.YthmhmkkcjlgbjaaGreatDoorRows
import Derived.ProofKit
import Derived.LaidMore
import Derived.OpenShut
import Derived.Stop.Joined
import Derived.Stop.LaidErr
import Derived.Lib.LaidTab
import Derived.Deep.Matrix
import Derived.Test.YthmhmkkcjlgbjaaGreatDoorCards
import Derived.Test.YthmhmkkcjlgbjaaGreatDoorTie
import Derived.SevenTiedAt
/- schismalaw07: HermiteVerifies, the walk -/
namespace Go.Proofs.YthmhmkkcjlgbjaaGreatDoor
open Go.RowKit Go.Sort
theorem bC_12 : 13 * (bC 1 30 12 + 2) < LIM := by decide
theorem few_cols {M : Mx} (hf : fewM M = true) (h4 : M.length ≤ 4) (hc : checkM M = 0) : (M.length ≤ 1 ∨ ncols M ≤ 5) ∧ ncols M ≤ 12 := by
  obtain ⟨_, hn, hr, _⟩ := checkM_ok hc
  refine ⟨?_, hn⟩
  rcases Nat.lt_or_ge 1 M.length with h1 | h1
  · right
    unfold fewM at hf
    rw [Bool.and_eq_true, List.all_eq_true] at hf
    have h2 := hf.2 _ (List.getElem_mem (show 0 < M.length by omega))
    have h3 := hr _ (List.getElem_mem (show 0 < M.length by omega))
    unfold fewRow at h2
    rw [h3] at h2
    have h4 : ¬ M.length ≤ 1 := by omega
    simp at h2
    omega
  · exact .inl h1
theorem few_bC {M : Mx} (hf : fewM M = true) (h4 : M.length ≤ 4) (hc : checkM M = 0) : 13 * (bC M.length 30 (ncols M) + 2) < LIM := by
  obtain ⟨h1 | h1, h2⟩ := few_cols hf h4 hc
  · have := bC_mono2 (k := 30) h2 h1
    have := bC_12
    omega
  · exact bC_lim (by omega) h1
theorem rkb_mono2 {m m' k : Nat} (h : m ≤ m') : ∀ c, rkB m k c ≤ rkB m' k c
  | 0 => Nat.le_refl _
  | c + 1 => by rw [rkB, rkB]; exact Nat.mul_le_mul (by have := rkb_mono2 h c (k := k); omega) (by omega)
theorem rk_lim {M : Mx} (hf : fewM M = true) (h4 : M.length ≤ 4) (hc : checkM M = 0) : rkB M.length 30 (ncols M) ≤ 242610 := by
  obtain ⟨h1 | h1, h2⟩ := few_cols hf h4 hc
  · have a1 := rkb_mono2 (k := 30) h1 (ncols M)
    have a2 := rkB_mono 1 30 (ncols M) (12 - ncols M)
    rw [show ncols M + (12 - ncols M) = 12 by omega, show rkB 1 30 12 = 131070 by decide] at a2
    omega
  · have a1 := rkb_mono2 (k := 30) (show M.length ≤ 5 by omega) (ncols M)
    have a2 := rkB_mono 5 30 (ncols M) (5 - ncols M)
    rw [show ncols M + (5 - ncols M) = 5 by omega, show rkB 5 30 5 = 242610 by decide] at a2
    omega
set_option maxRecDepth 100000 in
set_option maxHeartbeats 4000000 in
theorem verifies_walk {w : World} {vm vf vt : Value} {M F T : Mx} (hM : MatR w vm M) (hF : MatR w vf F) (hT : MatR w vt T) (hL : Laid w) :
    Calls Tryz.prog 9 #[vm, vf, vt] w fun e w' => e = .returned (.bool true) ∧ Ext w w' := by
  have HL := Lib.hid hL
  have HM := Lib.hid hM
  have HF := Lib.hid hF
  have HT := Lib.hid hT
  have hkn := Lib.hid (fun W (hW : Ext w W) => known_any (hL.ext hW))
  have hfm := Lib.hid (fun W (hW : Ext w W) => few_any (hM.ext hW))
  have hff := Lib.hid (fun W (hW : Ext w W) => few_any (hF.ext hW))
  have hft := Lib.hid (fun W (hW : Ext w W) => few_any (hT.ext hW))
  obtain ⟨sm, _, _, cm, _, rfl, -⟩ := hM
  obtain ⟨sf, _, _, cf, _, rfl, -⟩ := hF
  obtain ⟨st, gt, ot, ct, vst, rfl, hct, hvt, hSt, hrt⟩ := hT
  have HSt := Lib.hid hSt
  have Hvt := Lib.hid hvt
  have Hrt := Lib.hid hrt
  obtain ⟨m, hm⟩ : ∃ m, m = M.length := ⟨_, rfl⟩
  obtain ⟨fl, hfl⟩ : ∃ fl, fl = F.length := ⟨_, rfl⟩
  obtain ⟨t9, htl⟩ : ∃ t9, t9 = T.length := ⟨_, rfl⟩
  have Hm := Lib.hid hm
  have Hfl := Lib.hid hfl
  have Htl := Lib.hid htl
  simp only [← hm] at hfm
  simp only [← hfl] at hff
  simp only [← htl] at hft
  rw [← hm, ← hfl, ← htl]
  rw [← htl] at hct
  clear hL hSt hvt hrt hm hfl htl
  by_cases h1 : 4 < m
  · have h1i : (4 : Int) < (m : Int) := by omega
    clear hfm hff hft
    go_enter Tryz.func9, Tryz.ntmps9
    go_wp2_with fail
    refine (hkn.out _ (Ext.refl _)).mono ?_
    rintro e w1 ⟨rfl, hE1⟩
    go_wp2_with fail
    refine (hkn.out _ hE1).mono ?_
    rintro e w9 ⟨rfl, hE9⟩
    have hfin := (hE1).trans hE9
    go_wp2_with fail
    go_ret
    exact ⟨rfl, hfin⟩
  have h1i : ¬ (4 : Int) < (m : Int) := by omega
  by_cases h2 : 4 < fl
  · have h2i : (4 : Int) < (fl : Int) := by omega
    clear hfm hff hft
    go_enter Tryz.func9, Tryz.ntmps9
    go_wp2_with fail
    refine (hkn.out _ (Ext.refl _)).mono ?_
    rintro e w1 ⟨rfl, hE1⟩
    go_wp2_with fail
    refine (hkn.out _ hE1).mono ?_
    rintro e w9 ⟨rfl, hE9⟩
    have hfin := (hE1).trans hE9
    go_wp2_with fail
    go_ret
    exact ⟨rfl, hfin⟩
  have h2i : ¬ (4 : Int) < (fl : Int) := by omega
  by_cases h3 : 4 < t9
  · have h3i : (4 : Int) < (t9 : Int) := by omega
    clear hfm hff hft
    go_enter Tryz.func9, Tryz.ntmps9
    go_wp2_with fail
    refine (hkn.out _ (Ext.refl _)).mono ?_
    rintro e w1 ⟨rfl, hE1⟩
    go_wp2_with fail
    refine (hkn.out _ hE1).mono ?_
    rintro e w9 ⟨rfl, hE9⟩
    have hfin := (hE1).trans hE9
    go_wp2_with fail
    go_ret
    exact ⟨rfl, hfin⟩
  have h3i : ¬ (4 : Int) < (t9 : Int) := by omega
  cases hb1 : fewM M
  · rw [hb1] at hfm
    clear hff hft hb1
    go_enter Tryz.func9, Tryz.ntmps9
    go_wp2_with fail
    refine (hkn.out _ (Ext.refl _)).mono ?_
    rintro e w1 ⟨rfl, hE1⟩
    go_wp2_with fail
    refine (hfm.out _ hE1).mono ?_
    rintro e w2 ⟨rfl, hE2⟩
    have hF2 := hE1.trans hE2
    go_wp2_with fail
    refine (hkn.out _ hF2).mono ?_
    rintro e w9 ⟨rfl, hE9⟩
    have hfin := (hF2).trans hE9
    go_wp2_with fail
    go_ret
    exact ⟨rfl, hfin⟩
  rw [hb1] at hfm
  cases hb2 : fewM F
  · rw [hb2] at hff
    clear hft hb1 hb2
    go_enter Tryz.func9, Tryz.ntmps9
    go_wp2_with fail
    refine (hkn.out _ (Ext.refl _)).mono ?_
    rintro e w1 ⟨rfl, hE1⟩
    go_wp2_with fail
    refine (hfm.out _ hE1).mono ?_
    rintro e w2 ⟨rfl, hE2⟩
    have hF2 := hE1.trans hE2
    go_wp2_with fail
    refine (hff.out _ hF2).mono ?_
    rintro e w3 ⟨rfl, hE3⟩
    have hF3 := hF2.trans hE3
    go_wp2_with fail
    refine (hkn.out _ hF3).mono ?_
    rintro e w9 ⟨rfl, hE9⟩
    have hfin := (hF3).trans hE9
    go_wp2_with fail
    go_ret
    exact ⟨rfl, hfin⟩
  rw [hb2] at hff
  cases hb3 : fewM T
  · rw [hb3] at hft
    clear hb1 hb2 hb3
    go_enter Tryz.func9, Tryz.ntmps9
    go_wp2_with fail
    refine (hkn.out _ (Ext.refl _)).mono ?_
    rintro e w1 ⟨rfl, hE1⟩
    go_wp2_with fail
    refine (hfm.out _ hE1).mono ?_
    rintro e w2 ⟨rfl, hE2⟩
    have hF2 := hE1.trans hE2
    go_wp2_with fail
    refine (hff.out _ hF2).mono ?_
    rintro e w3 ⟨rfl, hE3⟩
    have hF3 := hF2.trans hE3
    go_wp2_with fail
    refine (hft.out _ hF3).mono ?_
    rintro e w4 ⟨rfl, hE4⟩
    have hF4 := hF3.trans hE4
    go_wp2_with fail
    refine (hkn.out _ hF4).mono ?_
    rintro e w9 ⟨rfl, hE9⟩
    have hfin := (hF4).trans hE9
    go_wp2_with fail
    go_ret
    exact ⟨rfl, hfin⟩
  rw [hb3] at hft
  have Hb1 := Lib.hid hb1
  have Hb3 := Lib.hid hb3
  have hver := Lib.hid (fun W (hW : Ext w W) => verify_any (HM.out.ext hW) (HF.out.ext hW) (HT.out.ext hW) (by rw [← Hm.out]; omega) (fun hc => few_bC Hb1.out (by rw [← Hm.out]; omega) hc) (HL.out.ext hW))
  simp only [← Hm.out, ← Hfl.out, ← Htl.out] at hver
  clear hb1 hb2 hb3
  go_enter Tryz.func9, Tryz.ntmps9
  go_wp2_with fail
  refine (hkn.out _ (Ext.refl _)).mono ?_
  rintro e w1 ⟨rfl, hE1⟩
  go_wp2_with fail
  refine (hfm.out _ hE1).mono ?_
  rintro e w2 ⟨rfl, hE2⟩
  have hF2 := hE1.trans hE2
  go_wp2_with fail
  refine (hff.out _ hF2).mono ?_
  rintro e w3 ⟨rfl, hE3⟩
  have hF3 := hF2.trans hE3
  go_wp2_with fail
  refine (hft.out _ hF3).mono ?_
  rintro e w4 ⟨rfl, hE4⟩
  have hF4 := hF3.trans hE4
  have hver1 := Lib.hid (hver.out w4 hF4)
  clear hver hfm hff hft
  go_wp2_with fail
  refine hver1.out.mono ?_
  rintro e w5 ⟨v, rfl, hS, hE5⟩
  have hE15 := hF4.trans hE5
  have HS := Lib.hid hS
  have hA := hE15.alloc (.cells #[.slice sm m cm, .slice sf fl cf, .slice st t9 ct] 29)
  have hcell := Lib.hid (show ∀ i, i < 3 → ∃ s n c, (w5.alloc (.cells #[.slice sm m cm, .slice sf fl cf, .slice st t9 ct] 29)).cell? ⟨w5.heap.size, i, none⟩ = some (.slice s n c) ∧ MatR w (.slice s n c) ([M, F, T].getD i []) from fun i hi => by
    have : i = 0 ∨ i = 1 ∨ i = 2 := by omega
    rcases this with rfl | rfl | rfl
    · exact ⟨sm, m, cm, by go_simp, by rw [Hm.out]; exact HM.out⟩
    · exact ⟨sf, fl, cf, by go_simp, by rw [Hfl.out]; exact HF.out⟩
    · exact ⟨st, t9, ct, by go_simp, by rw [Htl.out]; exact HT.out⟩)
  clear hver1 hS
  go_wp2_with fail
  generalize hV : w5.alloc (.cells #[.slice sm m cm, .slice sf fl cf, .slice st t9 ct] 29) = V at *
  clear hV
  go_loopw [9] (fun idx wr => ∃ i : Nat, i ≤ 3 ∧ idx = .int .i64 i ∧ Hid (∀ j, j < i → checkM ([M, F, T].getD j []) = 0) ∧ Ext V wr) (fun idx _ => 3 - (intOf idx).toNat)
  case atStart => exact ⟨0, by omega, by go_num, Lib.hid (fun j h => by omega), Ext.refl _⟩
  case round =>
    obtain ⟨i, hi, rfl, hC, hE⟩ := hrel
    generalize wr = X at *
    have hEX := hA.trans hE
    by_cases hlt : i < 3
    · have hii : (i : Int) < 3 := by omega
      obtain ⟨s, n, c, hcl, hmat⟩ := hcell.out i hlt
      have hck := Lib.hid (Check07_any (hmat.ext hEX))
      have hclX := hE.cell hcl
      obtain ⟨q, hq⟩ : ∃ q, q = checkM ([M, F, T].getD i []) := ⟨_, rfl⟩
      rw [← hq] at hck
      have Hq := Lib.hid hq
      clear hcl hq hmat
      by_cases hq0 : q = 0
      · subst hq0
        have hC2 := Lib.hid (show ∀ j, j < i + 1 → checkM ([M, F, T].getD j []) = 0 from fun j hj => by
          by_cases e : j = i
          · subst e; exact Hq.out.symm
          · exact hC.out j (by omega))
        go_wp2_with fail
        refine hck.out.mono ?_
        rintro e W ⟨rfl, hEW⟩
        have hE2 := hE.trans hEW
        clear hck
        go_wp2_with fail
        go_roundw
        case rel => exact ⟨i + 1, by omega, by go_num, hC2, hE2⟩
        case measure => simp [intOf] <;> omega
      · have hqb : (q == 0) = false := beq_eq_false_iff_ne.2 hq0
        have hqb2 : (q != 0) = true := by simp [bne, hqb]
        have hvq : v = q := by
          have h3 : i = 0 ∨ i = 1 ∨ i = 2 := by omega
          have e := Hq.out
          have hS := HS.out
          unfold verS at hS
          rcases h3 with rfl | rfl | rfl
          · rw [if_pos (by rw [e] at hq0; exact hq0)] at hS; rw [hS, e]; rfl
          · rw [if_neg (by have := hC.out 0 (by omega); simpa using this), if_pos (by rw [e] at hq0; exact hq0)] at hS; rw [hS, e]; rfl
          · rw [if_neg (by have := hC.out 0 (by omega); simpa using this), if_neg (by have := hC.out 1 (by omega); simpa using this), if_pos (by rw [e] at hq0; exact hq0)] at hS; rw [hS, e]; rfl
        subst hvq
        clear hq0
        go_wp2_with fail
        refine hck.out.mono ?_
        rintro e W ⟨rfl, hEW⟩
        have hE2 := hEX.trans hEW
        clear hck
        go_wp2_with fail
        go_ret
        exact ⟨rfl, hE2⟩
    · have hi3 : i = 3 := by omega
      have c1 : checkM M = 0 := by have := hC.out 0 (by omega); simpa using this
      have c2 : checkM F = 0 := by have := hC.out 1 (by omega); simpa using this
      have c3 : checkM T = 0 := by have := hC.out 2 (by omega); simpa using this
      have hS := HS.out
      unfold verS at hS
      rw [if_neg (by simpa using c1), if_neg (by simpa using c2), if_neg (by simpa using c3)] at hS
      obtain ⟨_, hnM, hrM, heM⟩ := checkM_ok c1
      obtain ⟨_, _, hrT, _⟩ := checkM_ok c3
      have hrow0 : 0 < t9 → ∃ sr cr, st = some ⟨gt, ot, none⟩ ∧ w.cell? ⟨gt, ot, none⟩ = some (.slice sr (ncols T) cr) := fun h => by
        have hT0 : 0 < T.length := by rw [← Htl.out]; exact h
        obtain ⟨sr, br, or, cr, hrow, _, _⟩ := MatR.row HSt.out Hvt.out Hrt.out hT0
        rw [hrT _ (List.getElem_mem hT0), Nat.add_zero] at hrow
        exact ⟨sr, cr, HSt.out.addr (by rw [Hvt.out]; omega), hrow⟩
      by_cases hsz : T.length ≠ M.length ∨ ncols T ≠ M.length
      · rw [if_pos hsz] at hS
        subst hS
        have hcases : t9 ≠ m ∨ (t9 = m ∧ 0 < t9 ∧ ncols T ≠ m) := by
          rw [← Htl.out, ← Hm.out] at hsz
          rcases Decidable.em (t9 = m) with h | h
          · refine .inr ⟨h, ?_, by omega⟩
            rcases Nat.eq_zero_or_pos t9 with h0 | h0
            · exfalso
              have : ncols T = 0 := by rw [List.eq_nil_of_length_eq_zero (Htl.out.symm.trans h0)]; rfl
              omega
            · exact h0
          · exact .inl h
        rcases hcases with hne | ⟨he, hpos, hne⟩
        · have hb1 : ((t9 : Int) == (m : Int)) = false := beq_eq_false_iff_ne.2 (by omega)
          have hb2 : ((t9 : Int) != (m : Int)) = true := by simp [bne, hb1]
          clear hne hsz hrow0 c1 c2 c3 hrM heM hrT hnM
          go_wp2_with fail
          go_ret
          exact ⟨rfl, hEX⟩
        · obtain ⟨sr, cr, rfl, hrow⟩ := hrow0 hpos
          obtain ⟨k, hk⟩ : ∃ k, k = ncols T := ⟨_, rfl⟩
          rw [← hk] at hrow hne
          have hrowX := hEX.cell hrow
          have hpi : (0 : Int) < (t9 : Int) := by omega
          subst he
          have hb1 : ((k : Int) == (t9 : Int)) = false := beq_eq_false_iff_ne.2 (by omega)
          have hb2 : ((k : Int) != (t9 : Int)) = true := by simp [bne, hb1]
          clear hne hsz hrow0 c1 c2 c3 hrM heM hrT hnM hk hrow
          go_wp2_with fail
          go_ret
          exact ⟨rfl, hEX⟩
      · rw [if_neg hsz] at hS
        obtain ⟨F0, hF0, hS⟩ := hS
        have hs1 : T.length = M.length := by omega
        have hs2 : ncols T = M.length := by omega
        have hm4 : M.length ≤ 4 := by rw [← Hm.out]; omega
        have hrk := rk_lim Hb1.out hm4 c1
        have hrkT := rk_lim Hb3.out (by omega) c3
        have hlf := Lib.hid (fun W (hW : Ext w W) => form07_any (HM.out.ext hW) hrM (by omega) (by omega) heM (by omega) (HL.out.ext hW))
        have htr := Lib.hid (fun W (hW : Ext w W) (hl : F.length ≤ M.length) (hr : Rect (ncols M) F) => transforms_any (HM.out.ext hW) (HF.out.ext hW) (HT.out.ext hW) c1 c2 c3 hs1 hs2 (by omega) hl hr rfl (by
          have : rkB T.length 30 (ncols T) * (T.length + 1) ≤ 242610 * 5 := Nat.mul_le_mul hrkT (by omega)
          omega) (HL.out.ext hW))
        simp only [← Hm.out] at hlf
        have HF0 := Lib.hid hF0
        have HS9 := Lib.hid hS
        have Hn := Lib.hid hnM
        have ht9 : t9 = m := by rw [Htl.out, Hm.out]; exact hs1
        have htk : 0 < t9 → ncols T = t9 := fun _ => by rw [Htl.out, hs1]; exact hs2
        have Hm4 := Lib.hid hm4
        clear c1 c2 c3 hrM heM hrT hnM hsz hS hF0 hs1 hs2 hrk hrkT hm4
        subst ht9
        rcases Nat.eq_zero_or_pos t9 with h0 | h0
        case' inl =>
          have hp0 : ¬ (0 : Int) < (t9 : Int) := by omega
          have hpd : decide ((0 : Int) < (t9 : Int)) = false := decide_eq_false hp0
          clear h0 hrow0 htk
          go_wp2_with fail
        case' inr =>
          have hp0 : (0 : Int) < (t9 : Int) := by omega
          obtain ⟨sr, cr, rfl, hrow⟩ := hrow0 h0
          rw [htk h0] at hrow
          have hrowX := hEX.cell hrow
          clear h0 hrow0 htk hrow
          go_wp2_with fail
        all_goals
          refine (hlf.out _ hEX).mono ?_
          rintro e w6 ⟨F1, hF1, hFl1, hP⟩
          obtain rfl : F1 = F0 := hF1.unique HF0.out (fun v hv => .mem hv) (fun v hv => .mem hv)
          have HFl1 := Lib.hid hFl1
          clear hlf hF1 hFl1
          rcases hP with ⟨hs, u, rfl, hu, hE6⟩ | ⟨hs, rfl, hE6⟩
          rotate_left
          · have hE9 := hEX.trans hE6
            obtain ⟨rfl, h⟩ | ⟨rfl, h⟩ := HS9.out
            · exact absurd h.1 (by rw [hs]; decide)
            clear h hs
            go_wp2_with fail
            go_ret
            exact ⟨rfl, hE9⟩
          · have hE16 := hEX.trans hE6
            have HU := Lib.hid hu.mat
            have Hs := Lib.hid hs
            obtain ⟨su, _, _, cu, _, hvu, -⟩ := hu.mat
            subst hvu
            have heq := Lib.hid (Equal_any (HF.out.ext hE16) HU.out (by rw [← Hfl.out]; omega) (fun r hr => by
              have h1 := (checkM_ok (show checkM F = 0 by have := hC.out 1 (by omega); simpa using this))
              rw [h1.2.2.1 r hr]; have := h1.2.1; omega))
            rw [← Hfl.out] at heq
            obtain ⟨bq, hbq⟩ : ∃ bq, bq = decide (F = F1) := ⟨_, rfl⟩
            rw [← hbq] at heq
            have Hbq := Lib.hid hbq
            clear hs hu hbq
            go_wp2_with fail
            refine heq.out.mono ?_
            rintro e w7 ⟨rfl, hE7⟩
            have hE17 := hE16.trans hE7
            clear heq
            cases bq with
            | false =>
              obtain ⟨rfl, h⟩ | ⟨rfl, h⟩ := HS9.out
              · exfalso
                have h2 := Hbq.out
                rw [decide_eq_true h.2.1.symm] at h2; cases h2
              clear h
              go_wp2_with fail
              go_ret
              exact ⟨rfl, hE17⟩
            | true =>
              have hFF : F = F1 := of_decide_eq_true Hbq.out.symm
              have htr1 := Lib.hid (htr.out w7 hE17 (by rw [hFF]; exact HFl1.out) (by
                obtain ⟨⟨ps, hI⟩, -⟩ := HF0.out
                rw [hFF]; exact hI.rect))
              simp only [← Hm.out, ← Htl.out, ← Hfl.out] at htr1
              have HFF := Lib.hid hFF
              clear htr hFF
              go_wp2_with fail
              refine htr1.out.mono ?_
              rintro e w8 ⟨b, rfl, hb, hE8⟩
              have hE18 := hE17.trans hE8
              clear htr1
              cases b with
              | false =>
                obtain ⟨rfl, h⟩ | ⟨rfl, h⟩ := HS9.out
                · have := hb.2 ⟨h.2.2.1, h.2.2.2⟩
                  cases this
                clear h hb
                go_wp2_with fail
                go_ret
                exact ⟨rfl, hE18⟩
              | true =>
                obtain ⟨rfl, h⟩ | ⟨rfl, h⟩ := HS9.out
                rotate_left
                · exact absurd ⟨Hs.out, HFF.out.symm, (hb.1 rfl).1, (hb.1 rfl).2⟩ h
                clear h hb
                go_wp2_with fail
                go_ret
                exact ⟨rfl, hE18⟩
end Go.Proofs.YthmhmkkcjlgbjaaGreatDoor
/- what the rows' frames need: the listed variables, matrices opened -/
namespace Go.Proofs.YthmhmkkcjlgbjaaGreatDoor
open Go.ChangeShapes Go.WideShapes Go.ChangeAt Go.WideMaps Go.WideElems Go.RowKit Go.Deep
theorem fr_own : ownKnob Tryz.prog.godebug = none := by kernel_rfl
theorem fr_laidOut : laidOutB Tryz.prog = true := by kernel_rfl
theorem fr_pow : Tryz.prog.globalNamed "internal/strconv.uint64pow10" = some 0 := by kernel_rfl
theorem fr_powT : (Tryz.prog.globals[0]?).map (·.type) = some 212 := by kernel_rfl
theorem fr_rng : Tryz.prog.globalNamed "strconv.ErrRange" = some 3 := by kernel_rfl
theorem fr_rngT : (Tryz.prog.globals[3]?).map (·.type) = some 152 := by kernel_rfl
theorem fr_c20 : Tryz.prog.cellsOf 212 = 20 := by kernel_rfl
theorem fr_cu : Tryz.prog.cellsOf 166 = 1 := by kernel_rfl
theorem fr_cE : Tryz.prog.cellsOf 224 = 1 := by kernel_rfl
theorem fr_cS : Tryz.prog.cellsOf 9 = 1 := by kernel_rfl
theorem fr_cR : Tryz.prog.cellsOf 35 = 1 := by kernel_rfl
theorem fr_cI : Tryz.prog.cellsOf 3 = 1 := by kernel_rfl
theorem fr_star : "*" ++ "errors.errorString" = "*errors.errorString" := by decide
theorem fr_ptr (u : TypeId) (h : Tryz.prog.typeName? 3 u = some "*errors.errorString") : u = 222 :=
  typeName_ptr_named (nm := "errors.errorString") (by rw [fr_star]; kernel_rfl) (by kernel_rfl) (by decide) u (by rw [fr_star]; exact h)
abbrev fr_list : List (String × DataW Unit) := [("math/bits.deBruijn32tab", Rows.laid_math_bits_deBruijn32tab), ("math/bits.deBruijn64tab", Rows.laid_math_bits_deBruijn64tab), ("internal/strconv.uint64pow10", Rows.laid_internal_strconv_uint64pow10), ("strconv.ErrRange", Rows.laid_strconv_ErrRange), ("strconv.ErrSyntax", Rows.laid_strconv_ErrSyntax)]
theorem fr_tab : (Rows.laid_internal_strconv_uint64pow10 : DataW Unit) = Lib.tabData .u64 Lib.pow10Tab := by kernel_rfl
theorem laid_of {W : World} (h : laidMetH Tryz.prog fr_list W) : Laid W := by
  rw [MakeChecks.laidMetH_plain _ _ _ (by kernel_rfl)] at h
  have h3 := h.tail.tail
  rw [fr_tab] at h3
  refine ⟨Lib.tabIs_of_head fr_pow fr_powT Tryz.underlying212 Tryz.underlying166 fr_cu fr_c20 h3, ?_⟩
  obtain ⟨a, s, hv, _⟩ := laid_sentinel h3.tail fr_rng fr_rngT Tryz.underlying152 fr_ptr Tryz.underlying222 Tryz.underlying224 rfl rfl Tryz.underlying9 fr_cE fr_cS
  exact ⟨_, _, hv⟩
/-- The door's own heap meets the condition. -/
theorem door_met (os : Os) (args : Array Value) : laidMetH Tryz.prog fr_list ((World.doorLaid Tryz.prog 400 os).forCall (fun _ _ => 0) ⟨#[], args, []⟩).memory :=
  laidMetH_of_parts3 (fuel := 8) (laidMet_of_run' 8 (by kernel_rfl) (by kernel_rfl)) (by kernel_rfl) (by kernel_rfl)
theorem row_open {W : World} {A : Option Addr} {L C : Nat} {Z : List Int} {base : Nat} (h1 : L ≤ C) (h2 : Z.length = C) (h3 : A = none → C = 0) (h4 : ∀ a', A = some a' → base ≤ a'.block ∧ ∀ c, c < C → W.cell? (a'.add c) = some (.int .i64 (Z.getD c 0))) : RowR W (.slice A L C) (Z.take L) := by
  have hl : (Z.take L).length = L := by rw [List.length_take]; omega
  cases A with
  | none =>
    have hC := h3 rfl
    refine ⟨none, 0, 0, C, by rw [hl], by rw [hl]; exact h1, fun h => ?_, fun i x hx => ?_⟩
    · rw [is_length, hl] at h; omega
    · have := (List.getElem?_eq_some_iff.1 hx).1
      rw [is_length, hl] at this; omega
  | some a =>
    obtain ⟨_, hc⟩ := h4 a rfl
    have hsp : 0 < L → a.spot = none := fun h => by simpa [Addr.add] using World.cell?_spot (hc 0 (by omega))
    obtain ⟨b, o, sp⟩ := a
    refine ⟨some ⟨b, o, sp⟩, b, o, C, by rw [hl], by rw [hl]; exact h1, fun h => ?_, fun i x hx => ?_⟩
    · rw [is_length, hl] at h
      have := hsp h
      simp at this
      rw [this]
    · have hi := (List.getElem?_eq_some_iff.1 hx).1
      rw [is_length, hl] at hi
      have := hsp (by omega)
      simp at this
      subst this
      rw [is_get (by rw [hl]; exact hi)] at hx
      have e := Option.some.inj hx
      rw [← e, ← add_plain, hc i (by omega), List.getElem_take, getD_get (by omega)]
theorem mat_open {H : Type} {enc : TypeId × Value → H} {W : World} {base : Nat} {held : Bool} {fuel : Nat} {v : Value} {x : DataW H × List MemPlace} (hv : v.cells.toList = [v])
    (h : DataW.trod enc Tryz.prog W base (fun _ => true) held fuel 29 v.cells.toList = some x) : ∃ M, MatR W v M := by
  rw [hv] at h
  rcases open_int_rows Tryz.underlying29 Tryz.underlying35 Tryz.underlying3 fr_cR fr_cI h with ⟨hcs, _⟩ | ⟨a, len, cap, A, L, C, Z, hcs, _, hl, _, _, hrows⟩
  · obtain rfl : v = .slice none 0 0 := by simpa using hcs
    exact ⟨[], none, 0, 0, 0, [], rfl, Nat.le_refl _, rfl, Sl.nil _ _ _ _, fun i h => by simp at h⟩
  · obtain rfl : v = .slice (some a) len cap := by simpa using hcs
    have hsp : 0 < len → a.spot = none := fun h => by simpa [Addr.add] using World.cell?_spot (hrows 0 (by omega)).1
    obtain ⟨b, o, sp⟩ := a
    refine ⟨(List.range len).map fun r => (Z r).take (L r), some ⟨b, o, sp⟩, b, o, cap, (List.range len).map fun r => .slice (A r) (L r) (C r), by simp, by simpa using hl, by simp, ⟨fun h => ?_, fun i y hy => ?_⟩, fun i hi hi' => ?_⟩
    · have := hsp (by simpa using h)
      simp at this
      rw [this]
    · have hi := (List.getElem?_eq_some_iff.1 hy).1
      have hil : i < len := by simpa using hi
      have := hsp (by omega)
      simp at this
      subst this
      have e : y = .slice (A i) (L i) (C i) := by
        rw [List.getElem?_eq_getElem hi] at hy
        have := Option.some.inj hy
        rw [← this]; simp
      rw [e, ← add_plain]
      exact (hrows i (by omega)).1
    · have hil : i < len := by simpa using hi
      obtain ⟨_, r1, _, r3, _, r5, r6⟩ := hrows i (by omega)
      have := row_open r1 r3 r5 r6
      simpa using this
end Go.Proofs.YthmhmkkcjlgbjaaGreatDoor
/- schismalaw07.HermiteVerifies: for every three matrices the law returns true, and they read as they did. No condition but what the card itself prints. -/
namespace Go.Proofs.YthmhmkkcjlgbjaaGreatDoor
open Go.ChangeShapes Go.WideShapes Go.ChangeAt Go.WideMaps Go.WideElems Go.RowKit Go.Deep
set_option maxRecDepth 100000 in
set_option maxHeartbeats 2000000 in
theorem verifies_lifted (os : Os) (started : os.Started) (H : Type) (enc : TypeId × Value → H) :
    ReturnsInHanded {} Tryz.checked os 9 .any (fun w args => (Rows.hermiteVerifiesSpec.pre enc Tryz.prog Tryz.f9 [] false w args ∧ laidMetH Tryz.prog fr_list w) ∧ sizedMet enc Tryz.prog Tryz.f9 (OpenSpec.ofChange Rows.hermiteVerifiesSpec) false w args)
      (Rows.hermiteVerifiesSpec.post enc Tryz.prog Tryz.f9 false true false false) := by
  refine returnsInHanded_of_change_and (C := Tryz.checked) (X := fun w _ => laidMetH Tryz.prog fr_list w) (fun _ _ _ hh h => h.of_heap hh) fr_own started (by kernel_rfl) Tryz.func9
    (ChangeSpec.witness_shaped (enc := enc) (C := Tryz.checked) (os := os) (X := fun w _ => laidMetH Tryz.prog fr_list w) false (World.doorLaid Tryz.prog 400 os) #[.slice none 0 0, .slice none 0 0, .slice none 0 0] 8 rfl (World.shaped_of_RefB (by kernel_rfl) (by kernel_rfl)) (by kernel_rfl) (by kernel_rfl) (by kernel_rfl) (door_met os _)) ?_
  intro W base args ds gs before hval0 hW _ _ hL _
  have hval : ∀ (j : Nat) t v, Tryz.f9.params[j]? = some t → args[j]? = some v → Value.okWide Tryz.prog W .any base t v := hval0
  have hW' := hW
  obtain ⟨p, q, hA0, hV, rfl, hfz, hnd⟩ := hW
  have hA : DataW.TrodAll enc Tryz.prog W 0 (fun _ => true) true Tryz.f9.params.toList args.toList ds p := hA0
  rw [Tryz.params9] at hA hval
  obtain ⟨v0, v1, v2, d0, d1, d2, p0, p1, p2, rfl, rfl, rfl, h0, h1, h2⟩ := trodAll_three hA
  obtain ⟨rfl, rfl⟩ := trodVars_none hV
  obtain ⟨a0, len, cap, rfl⟩ := okWide_slice Tryz.underlying29 (hval 0 29 v0 rfl rfl)
  obtain ⟨a1, len1, cap1, rfl⟩ := okWide_slice Tryz.underlying29 (hval 1 29 v1 rfl rfl)
  obtain ⟨a2, len2, cap2, rfl⟩ := okWide_slice Tryz.underlying29 (hval 2 29 v2 rfl rfl)
  have h0k := h0
  have h1k := h1
  have h2k := h2
  obtain ⟨fuel0, hf⟩ := h0
  obtain ⟨fuel1, hf1⟩ := h1
  obtain ⟨fuel2, hf2⟩ := h2
  obtain ⟨M, hM⟩ := mat_open (by simp [Value.cells]) hf
  obtain ⟨F, hF⟩ := mat_open (by simp [Value.cells]) hf1
  obtain ⟨T, hT⟩ := mat_open (by simp [Value.cells]) hf2
  clear hA0 hval0
  simp only [List.append_nil, List.append_assoc] at hW'
  have hlt : ∀ x ∈ p0 ++ (p1 ++ p2), x.block < W.heap.size := fun x hx => by simpa using hW'.lt x hx
  refine (verifies_walk hM hF hT (laid_of hL)).mono ?_
  rintro e W' ⟨rfl, hE⟩
  have e1 : Rows.hermiteVerifiesSpec.fn H ([d0, d1, d2] ++ []) = { results := [.lit (.bool true)], args := [d0, d1, d2] } := rfl
  refine ⟨_, rfl, _, _, _, [], p0 ++ (p1 ++ p2), [], hW', ?_, ?_, ?_, hE.frame _, fun h => by cases h⟩
  · rw [e1]; exact trodAll_mk1 (shut_bool Tryz.underlying4 true)
  · rw [e1]; exact trodAll_mk3 (Below.trod fr_laidOut (by kernel_rfl) (of_decide_eq_true (by kernel_rfl)) h0k hE fun x hx => hlt x (List.mem_append_left _ hx)) (Below.trod fr_laidOut (by kernel_rfl) (of_decide_eq_true (by kernel_rfl)) h1k hE fun x hx => hlt x (List.mem_append_right _ (List.mem_append_left _ hx))) (Below.trod fr_laidOut (by kernel_rfl) (of_decide_eq_true (by kernel_rfl)) h2k hE fun x hx => hlt x (List.mem_append_right _ (List.mem_append_right _ hx)))
  · rw [e1]; rfl
theorem verifies_holds : Rows.HermiteVerifiesSaid :=
  OpenClaim.holds_of_wide 9 Tryz.f9 rfl rfl rfl rfl rfl rfl rfl ⟨rfl, rfl, rfl, rfl, rfl⟩ rfl rfl rfl rfl rfl (by kernel_rfl) Tryz.func9 (by kernel_rfl)
    (of_decide_eq_true (by kernel_rfl)) (by unfold Func.isWrapper; first | (rw [if_pos (by decide +kernel)]; kernel_rfl) | (rw [if_neg (by decide +kernel)]; exact ⟨rfl, rfl⟩))
    (fun os started H enc _ => verifies_lifted os started H enc)
theorem hermiteVerifies_card : Rows.HermiteVerifiesCardSaid :=
  Claim7.holds_tied_plain_at .later [] [.data, .data, .data, .sentinel, .sentinel] true Rows.hermiteVerifiesCard.stood.harness true
    verifies_holds (fun _ h => by cases h) (by kernel_rfl) (fun _ h => by cases h) hermiteVerifies_row_tie rfl ⟨rfl, rfl⟩ (by kernel_rfl) rfl
    (fun f fn hf hfn => by
      obtain rfl : f = 9 := Option.some.inj ((show Tryz.prog.funcNamed "schisma/schismalaw07.HermiteVerifies" = some 9 by kernel_rfl).symm.trans hf) |>.symm
      obtain rfl : fn = Tryz.f9 := (Option.some.inj (Tryz.func9.symm.trans hfn)).symm
      exact ⟨by kernel_rfl, fun j t ht => by
        rw [Tryz.params9] at ht
        have hm : t ∈ [29, 29, 29] := by simpa using Array.mem_of_getElem? ht
        have hall : ([29, 29, 29].all fun u => !Tryz.prog.wantsStandIn u) = true := by kernel_rfl
        exact (show Tryz.prog.wantsStandIn t = false by simpa using List.all_eq_true.1 hall t hm)⟩)
    (by kernel_rfl)
#print axioms hermiteVerifies_card
end Go.Proofs.YthmhmkkcjlgbjaaGreatDoor
