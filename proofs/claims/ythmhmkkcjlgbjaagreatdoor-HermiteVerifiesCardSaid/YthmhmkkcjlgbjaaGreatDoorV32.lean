/- Part 32 of the proof of the claim: contracts of the functions that it reaches, and plain laws; no condition. -/
import Derived.Test.YthmhmkkcjlgbjaaGreatDoorV20
import Derived.Test.YthmhmkkcjlgbjaaGreatDoorV31
import Derived.Test.YthmhmkkcjlgbjaaGreatDoorV28
import Derived.Test.YthmhmkkcjlgbjaaGreatDoorV22
import Derived.Test.YthmhmkkcjlgbjaaGreatDoorV30
/- schismaref07: Check -/
namespace Go.Proofs.YthmhmkkcjlgbjaaGreatDoor
open Go.RowKit Go.Sort
set_option maxRecDepth 100000 in
set_option maxHeartbeats 1000000 in
theorem Check07_any {w : World} {v : Value} {M : Mx} (hM : MatR w v M) :
    Calls Tryz.prog 20 #[v] w fun e w' => e = .returned (.int .i64 (checkM M)) ∧ Ext w w' := by
  obtain ⟨sa, gb, go, cap, vs, rfl, hcap, hvl, hS, hr⟩ := hM
  by_cases hbig : 12 < M.length
  · have hbi : (12 : Int) < (M.length : Int) := by omega
    have he : checkM M = 4 := by unfold checkM; rw [if_pos hbig]
    rw [he]
    clear he hS hr hvl
    go_enter Tryz.func20, Tryz.ntmps20
    go_wp2_with fail
    go_ret
    exact ⟨rfl, Ext.refl _⟩
  have he : checkM M = chk (M.getD 0 []).length M := by unfold checkM; rw [if_neg hbig]
  rw [he]
  obtain ⟨E0, hE0⟩ : ∃ E0, E0 = chk (M.getD 0 []).length M := ⟨_, rfl⟩
  rw [← hE0]
  have HE0 := Lib.hid hE0
  have hml : M.length ≤ 12 := by omega
  have hmi : (M.length : Int) ≤ 12 := by omega
  have HS := Lib.hid hS
  have HV := Lib.hid hvl
  have HR := Lib.hid hr
  clear hS hvl hr he hbig hE0
  go_enter Tryz.func20, Tryz.ntmps20
  go_wp2_with fail
  go_loopw [3] (fun idx wr => ∃ i : Nat, i ≤ M.length ∧ idx = .int .i64 i ∧ Hid (∀ j (h : j < M.length), j < i → chkR (M.getD 0 []).length M[j] = 0) ∧ Ext w wr) (fun idx _ => M.length - (intOf idx).toNat)
  case atStart => exact ⟨0, by omega, by go_num, Lib.hid (fun j _ h => by omega), Ext.refl _⟩
  case round =>
    obtain ⟨i, hi, rfl, Hz, hE⟩ := hrel
    generalize wr = X at *
    by_cases hlt : i < M.length
    · have hii : (i : Int) < (M.length : Int) := by omega
      have hi0 : 0 < M.length := by omega
      have hi0i : (0 : Int) < (M.length : Int) := by omega
      obtain rfl := HS.out.addr (by rw [HV.out]; omega)
      obtain ⟨sr, br, or, cr, hrow, hrc, hSr⟩ := MatR.row HS.out HV.out HR.out hlt
      obtain ⟨s0, b0, o0, c0, hrow0, hrc0, hS0⟩ := MatR.row HS.out HV.out HR.out hi0
      have hrow' := hE.cell hrow
      have hrow0' := hE.cell hrow0
      rw [Nat.add_zero] at hrow0'
      obtain ⟨c, hc⟩ : ∃ c, c = (M.getD 0 []).length := ⟨_, rfl⟩
      have hc0 : M[0].length = c := by rw [hc, getD_get hi0]
      rw [hc0] at hrow0'
      obtain ⟨n, hn⟩ : ∃ n, n = M[i].length := ⟨_, rfl⟩
      rw [← hn] at hrow'
      have HC := Lib.hid hc
      have Hn := Lib.hid hn
      have hat : chkR c M[i] ≠ 0 → chk (M.getD 0 []).length M = chkR c M[i] := fun h => by
        rw [hc]
        exact chk_at _ M i hlt (fun j hj => Hz.out j (by omega) hj) (by rw [← hc]; exact h)
      have Hat := Lib.hid hat
      have HSr := Lib.hid (hSr.ext hE)
      clear hrow hrow0 hrc0 hS0 hc hc0 hn hat hSr
      by_cases h12 : 12 < n
      · have h12i : (12 : Int) < (n : Int) := by omega
        have hch : chkR c M[i] = 4 := by unfold chkR; rw [← Hn.out, if_pos h12]
        have Hch := Lib.hid hch
        clear hch
        go_wp2_with fail
        go_ret
        exact ⟨by rw [HE0.out, Hat.out (by rw [Hch.out]; decide), Hch.out]; rfl, hE⟩
      · have h12i : (n : Int) ≤ 12 := by omega
        have h12d : decide ((12 : Int) < (n : Int)) = false := decide_eq_false (by omega)
        by_cases hnc : n = c
        · subst hnc
          clear h12
          go_wp2_with fail
          go_quiet (fail)
          have hE2 := hE.drewN 1
          go_wp2_with fail
          go_loopw [4] (fun idx wr => ∃ k : Nat, k ≤ n ∧ idx = .int .i64 k ∧ Hid (∀ j, j < k → grt (M[i].getD j 0) = false) ∧ Ext X wr) (fun idx _ => n - (intOf idx).toNat)
          case atStart => exact ⟨0, by omega, by go_num, Lib.hid (fun j h => by omega), (Ext.refl _).drewN _⟩
          case round =>
            obtain ⟨k, hk, rfl, Hg, hEk⟩ := hrel
            generalize wr = Y at *
            by_cases hkn : k < n
            · have hki : (k : Int) < (n : Int) := by omega
              have hkM : k < M[i].length := by rw [← Hn.out]; exact hkn
              have c1 := (HSr.out.ext hEk).cell k (.int .i64 (M[i][k])) (is_get hkM)
              obtain rfl := HSr.out.addr (by rw [is_length, ← Hn.out]; omega)
              have hrowY := hEk.cell hrow'
              obtain ⟨z, hz⟩ : ∃ z, z = M[i][k] := ⟨_, rfl⟩
              rw [← hz] at c1
              have Hz2 := Lib.hid (show M[i].getD k 0 = z by rw [hz, getD_get hkM])
              have hno : grt z = true → chkR n M[i] = 4 := fun h => by
                have : M[i].any grt = true := List.any_eq_true.2 ⟨M[i][k], List.getElem_mem hkM, by rw [← hz]; exact h⟩
                unfold chkR; rw [← Hn.out, if_neg (by omega), if_neg (by omega), this]; rfl
              have Hno := Lib.hid hno
              clear hz hno
              by_cases g1 : 1000000000 < z
              · have hch := Hno.out (by unfold grt; exact decide_eq_true (.inl g1))
                have Hch := Lib.hid hch
                clear hch
                go_wp2_with fail
                go_ret
                exact ⟨by rw [HE0.out, Hat.out (by rw [Hch.out]; decide), Hch.out]; rfl, hE.trans hEk⟩
              · have g1d : decide (1000000000 < z) = false := decide_eq_false g1
                by_cases g2 : z < -1000000000
                · have hch := Hno.out (by unfold grt; exact decide_eq_true (.inr g2))
                  have Hch := Lib.hid hch
                  clear hch
                  go_wp2_with fail
                  go_ret
                  exact ⟨by rw [HE0.out, Hat.out (by rw [Hch.out]; decide), Hch.out]; rfl, hE.trans hEk⟩
                · have g2d : decide (z < -1000000000) = false := decide_eq_false g2
                  have Hgz := Lib.hid (show grt z = false by unfold grt; exact decide_eq_false (by omega))
                  clear g1 g2
                  go_wp2_with fail
                  go_roundw
                  case rel => exact ⟨k + 1, by omega, by go_num, Lib.hid (fun j hj => by
                    by_cases e : j = k
                    · subst e; rw [Hz2.out]; exact Hgz.out
                    · exact Hg.out j (by omega)), hEk⟩
                  case measure => simp [intOf] <;> omega
            · have hrowY := hEk.cell hrow'
              have Hok := Lib.hid (show chkR n M[i] = 0 by
                have hany : M[i].any grt = false := by
                  cases h : M[i].any grt
                  · rfl
                  · obtain ⟨z, hz, hg⟩ := List.any_eq_true.1 h
                    obtain ⟨j, hj, rfl⟩ := List.getElem_of_mem hz
                    have := Hg.out j (by have := Hn.out; omega)
                    rw [getD_get hj] at this
                    rw [this] at hg; cases hg
                unfold chkR; rw [← Hn.out, if_neg (by omega), if_neg (by omega), hany]; rfl)
              go_wp2_with fail
              go_roundw
              case rel => exact ⟨i + 1, by omega, by go_num, Lib.hid (fun j h hj => by
                by_cases e : j = i
                · subst e; rw [← HC.out]; exact Hok.out
                · exact Hz.out j h (by omega)), hE.trans hEk⟩
              case measure => simp [intOf] <;> omega
        · have hch : chkR c M[i] = 5 := by unfold chkR; rw [← Hn.out, if_neg h12, if_pos hnc]
          have Hch := Lib.hid hch
          have hnb : ((n : Int) == (c : Int)) = false := beq_eq_false_iff_ne.2 (by omega)
          have hnb2 : ((n : Int) != (c : Int)) = true := by simp [bne, hnb]
          have hnc' : ¬ (n : Int) = (c : Int) := by omega
          clear hch hnc h12
          go_wp2_with fail
          go_quiet (fail)
          go_wp2_with fail
          go_ret
          exact ⟨by rw [HE0.out, Hat.out (by rw [Hch.out]; decide), Hch.out]; rfl, hE.drewN _⟩
    · have Hch := Lib.hid (chk_all (M.getD 0 []).length M (fun j h => Hz.out j h (by omega)))
      go_wp2_with fail
      go_ret
      exact ⟨by rw [HE0.out, Hch.out]; rfl, hE⟩
end Go.Proofs.YthmhmkkcjlgbjaaGreatDoor
/- schismalaw07: transforms -/
namespace Go.Proofs.YthmhmkkcjlgbjaaGreatDoor
open Go.RowKit Go.Sort
theorem ur_iff {T : Mx} {b : Bool} (hn : ncols T = T.length) (k1 : T.length = 0 → b = true) (k3 : 0 < T.length → T.length = ncols T → ∃ F, HnfOf (ncols T) T F ∧ (b = true ↔ F.length = T.length ∧ pivP F F F.length = 1)) : b = true ↔ uniP T := by
  rcases Nat.eq_zero_or_pos T.length with h0 | h0
  · have e := List.eq_nil_of_length_eq_zero h0
    subst e
    refine ⟨fun _ => ⟨[], hnf_nil (fun r h => by cases h), rfl, fun i h => by simp at h⟩, fun _ => k1 rfl⟩
  · obtain ⟨F, hF, hb⟩ := k3 h0 hn.symm
    rw [hb]
    obtain ⟨⟨ps, hI⟩, -⟩ := id hF
    rw [hn] at hI
    constructor
    · rintro ⟨e1, e2⟩; exact ⟨F, hF, e1, (uni_law hI e1).2 e2⟩
    · rintro ⟨G, hG, g1, g2⟩
      obtain rfl : F = G := hF.unique hG (fun v hv => .mem hv) (fun v hv => .mem hv)
      exact ⟨g1, (uni_law hI g1).1 g2⟩
theorem row_of2 {B : Nat} {w : World} {v : Value} {r : List Int} (h : RowV B w v r) : ∃ s n k, v = .slice s n k ∧ RowR w v r := by
  have h2 := h.row
  obtain ⟨s, n, k, e⟩ := row_shape h2
  exact ⟨s, n, k, e, h2⟩
theorem fr_open2 {B : Nat} {r : List Int} {w : World} {e : Ending} {w' : World} (h : FrPost B r w e w') : ∃ s n k o, e = .returned (.tuple #[.slice s n k, .bool o]) ∧ o = smallB r ∧ (o = true → RowR w' (.slice s n k) r) ∧ Ext w w' := by
  rcases h with ⟨hs, u, he, hu, hE⟩ | ⟨hs, he, hE⟩
  · obtain ⟨s, n, k, rfl, r1⟩ := row_of2 hu
    exact ⟨s, n, k, true, he, hs.symm, fun _ => r1, hE⟩
  · exact ⟨none, 0, 0, false, he, hs.symm, (fun h => by cases h), hE⟩
theorem prodM_getD {A B : Mx} {n i : Nat} (h : i < A.length) : (prodM A B n).getD i [] = prodR (A.getD i []) B n := by
  unfold prodM; rw [getD_map _ A i h [] []]
def TrPost (w : World) (M F T : Mx) (e : Ending) (w' : World) : Prop := ∃ b, e = .returned (.bool b) ∧ (b = true ↔ uniP T ∧ ∀ i, i < T.length → rowOK M F T i) ∧ Ext w w'
theorem allZ_rep {l : List Int} {n : Nat} (hl : l.length = n) : allZ l = true ↔ l = List.replicate n 0 := by
  unfold allZ
  rw [List.all_eq_true]
  refine ⟨fun h => ?_, fun h z hz => ?_⟩
  · refine List.eq_replicate_iff.2 ⟨hl, fun z hz => by simpa using h z hz⟩
  · rw [h, List.mem_replicate] at hz
    simpa using hz.2
set_option maxRecDepth 100000 in
set_option maxHeartbeats 4000000 in
theorem transforms_any {w : World} {vm vf vt : Value} {M F T : Mx} {E : Nat} (hM : MatR w vm M) (hF : MatR w vf F) (hT : MatR w vt T) (c1 : checkM M = 0) (c2 : checkM F = 0) (c3 : checkM T = 0) (hs1 : T.length = M.length) (hs2 : ncols T = M.length)
    (hk1 : M.length ≤ 5) (hFl : F.length ≤ M.length) (hFr : Rect (ncols M) F) (hE : rkB T.length 30 (ncols T) = E) (hEl : E * (T.length + 1) + 1 ≤ 2900000000) (hL : Laid w) :
    Calls Tryz.prog 43 #[vm, vf, vt] w (TrPost w M F T) := by
  obtain ⟨_, hnM, hrM, heM⟩ := checkM_ok c1
  obtain ⟨_, _, _, heF⟩ := checkM_ok c2
  obtain ⟨_, _, hrT, heT⟩ := checkM_ok c3
  have HL := Lib.hid hL
  have hck := Lib.hid (Check07_any hT)
  rw [c3] at hck
  have hur := Lib.hid (fun W (hW : Ext w W) => unimod07_any (hT.ext hW) c3 hE hEl (hL.ext hW))
  have htT := Lib.hid (fun W (hW : Ext w W) => to_m (hT.ext hW) (fun r hr z hz => by have := heT r hr z hz; unfold I64; omega) (by omega) (fun r hr => by rw [hrT r hr]; omega) (hL.ext hW))
  have htM := Lib.hid (fun W (hW : Ext w W) => to_m (hM.ext hW) (fun r hr z hz => by have := heM r hr z hz; unfold I64; omega) (by omega) (fun r hr => by rw [hrM r hr]; omega) (hL.ext hW))
  have h30 : ∀ z : Int, -1000000000 ≤ z ∧ z ≤ 1000000000 → z.natAbs < 2 ^ 30 := fun z hz => by
    have e : (2 : Nat) ^ 30 = 1073741824 := by decide
    rw [e]; omega
  have hpr := Lib.hid (fun W (hW : Ext w W) (v1 v2 : Value) (h1 : MtR W v1 T) (h2 : MtR W v2 M) => product_w h1 h2 hrT hrM hs2.symm (by omega) (by omega) (by omega) (fun r hr z hz => h30 z (heT r hr z hz)) (fun r hr z hz => h30 z (heM r hr z hz)) (hL.ext hW))
  have Hpb := Lib.hid (show ∀ t ∈ T, ∀ z ∈ prodR t M (ncols M), (pc z.natAbs).length ≤ 100000000 from fun t ht z hz => by
    unfold prodR at hz
    obtain ⟨j, _, rfl⟩ := List.mem_map.1 hz
    exact Nat.le_trans (dotB_pc (fun z hz => h30 z (heT t ht z hz)) (fun r hr z hz => h30 z (heM r hr z hz)) (by omega)) (by omega))
  have HeF := Lib.hid heF
  have HFr := Lib.hid hFr
  have Hts := Lib.hid (hs2.trans hs1.symm)
  have hrow0 : 0 < M.length → ∃ gb go sr cr cp, vm = .slice (some ⟨gb, go, none⟩) M.length cp ∧ w.cell? ⟨gb, go, none⟩ = some (.slice sr (ncols M) cr) := fun h => by
    obtain ⟨sm, gm, om, cm, vsm, hv, hcm, hvm, hSm, hrm⟩ := hM
    obtain ⟨sr, br, or, cr, hrow, _, _⟩ := MatR.row hSm hvm hrm h
    rw [hrM _ (List.getElem_mem h), Nat.add_zero] at hrow
    rw [hSm.addr (by omega)] at hv
    exact ⟨gm, om, sr, cr, cm, hv, hrow⟩
  obtain ⟨sm, _, _, cm, _, hvm9, -⟩ := id hM
  obtain ⟨sf, gf, of', cf, vsf, hvf9, hcf, hvf, hSf, hrf⟩ := hF
  obtain ⟨st, _, _, ct, _, hvt9, -⟩ := id hT
  subst hvm9 hvf9 hvt9
  have HSf := Lib.hid hSf
  have Hvf := Lib.hid hvf
  have Hrf := Lib.hid hrf
  obtain ⟨m, hm⟩ : ∃ m, m = M.length := ⟨_, rfl⟩
  obtain ⟨fl, hfl⟩ : ∃ fl, fl = F.length := ⟨_, rfl⟩
  obtain ⟨n, hn⟩ : ∃ n, n = ncols M := ⟨_, rfl⟩
  have htl : T.length = m := by rw [hs1, hm]
  have Hm := Lib.hid hm
  have Hfl := Lib.hid hfl
  have Hn := Lib.hid hn
  have Htl := Lib.hid htl
  rw [← hm] at hrow0 hk1 hFl ⊢
  rw [← hfl] at hcf hFl ⊢
  rw [← hn] at hrow0 hnM Hpb
  rw [htl] at hck ⊢
  simp only [htl] at hur htT
  simp only [← hm] at htM
  simp only [← hn] at hpr
  clear hM hT c1 c2 c3 hs1 hs2 hrM heM heF hrT heT hL h30 hSf hvf hrf hm hfl hn hE hEl hFr htl
  rcases Nat.eq_zero_or_pos m with h0 | h0
  case' inl =>
    have hm0 : ¬ (0 : Int) < (m : Int) := by omega
    have hmd : decide ((0 : Int) < (m : Int)) = false := decide_eq_false hm0
    have Hnz := Lib.hid (show n = 0 from by
      rw [Hn.out]
      have := Hm.out
      rw [h0] at this
      rw [List.eq_nil_of_length_eq_zero this.symm]; rfl)
    have hnI : (n : Int) = 0 := by have := Hnz.out; omega
    simp only [hnI] at hpr
    clear h0 hrow0 hnI
  case' inr =>
    have hm0 : (0 : Int) < (m : Int) := by omega
    obtain ⟨gb, go, sr, cr, cp, hvm, hrow⟩ := hrow0 h0
    injection hvm with e1 _ e3
    subst e1
    clear e3 h0 hrow0
  all_goals
    go_enter Tryz.func43, Tryz.ntmps43
    go_wp2_with fail
    refine hck.out.mono ?_
    rintro e w1 ⟨rfl, hE1⟩
    have hur1 := Lib.hid (hur.out w1 hE1)
    clear hck hur
    go_wp2_with fail
    refine hur1.out.mono ?_
    rintro e w2 ⟨b, rfl, k1, -, k3, hE2⟩
    have hE12 := hE1.trans hE2
    have Hub := Lib.hid (ur_iff Hts.out k1 k3)
    clear hur1 k1 k3
    cases b
    · have hfin := Lib.hid (show TrPost w M F T (.returned (.bool false)) w2 from ⟨false, rfl, ⟨(fun h => by cases h), (fun h => by have := Hub.out.2 h.1; cases this)⟩, hE12⟩)
      go_wp2_with fail
      go_ret
      exact hfin.out
    · have Huni := Lib.hid (Hub.out.1 rfl)
      have htT1 := Lib.hid (htT.out w2 hE12)
      try (have hrow2 := hE12.cell hrow)
      clear Hub htT
      go_wp2_with fail
      refine htT1.out.mono ?_
      rintro e w3 ⟨u1, rfl, hu1, hE3⟩
      have hE13 := hE12.trans hE3
      have htM1 := Lib.hid (htM.out w3 hE13)
      have HU1 := Lib.hid hu1.mat
      obtain ⟨s1, _, _, k1, _, hv1, -⟩ := hu1.mat
      subst hv1
      clear htT1 htM hu1
      go_wp2_with fail
      refine htM1.out.mono ?_
      rintro e w4 ⟨u2, rfl, hu2, hE4⟩
      have hE14 := hE13.trans hE4
      have hpr1 := Lib.hid (hpr.out w4 hE14 _ _ (HU1.out.ext hE4) hu2.mat)
      obtain ⟨s2, _, _, k2, _, hv2, -⟩ := hu2.mat
      subst hv2
      clear htM1 hpr hu2 HU1
      go_wp2_with fail
      refine hpr1.out.mono ?_
      rintro e w5 ⟨u3, rfl, hu3, hE5⟩
      have hE15 := hE14.trans hE5
      have HP := Lib.hid hu3.mat.at
      clear hpr1
      obtain ⟨s3, g3, o3, c3, hu3', hat⟩ := HP.out
      subst hu3'
      obtain ⟨P, hPe⟩ : ∃ P, P = prodM T M n := ⟨_, rfl⟩
      rw [← hPe] at hat ⊢
      have hPl : P.length = m := by rw [hPe]; unfold prodM; rw [List.length_map]; exact Htl.out
      rw [hPl]
      have HPe := Lib.hid hPe
      have HPl := Lib.hid hPl
      clear HP hPe hPl
      go_wp2_with fail
      go_loopw [9] (fun idx wr => ∃ i : Nat, i ≤ m ∧ idx = .int .i64 i ∧ Hid (∀ j, j < i → rowOK M F T j) ∧ Ext w5 wr) (fun idx _ => m - (intOf idx).toNat)
      case atStart => exact ⟨0, by omega, by go_num, Lib.hid (fun j h => by omega), Ext.refl _⟩
      case round =>
        obtain ⟨i, hi, rfl, hR, hEX⟩ := hrel
        generalize wr = X at *
        have hEwX := hE15.trans hEX
        by_cases hlt : i < m
        · have hii : (i : Int) < (m : Int) := by omega
          have hiP : i < P.length := by rw [HPl.out]; exact hlt
          have hiT : i < T.length := by rw [Htl.out]; exact hlt
          obtain ⟨rfl, sp, cp9, hcl, hrw⟩ := hat.out i hiP
          obtain ⟨p, hp⟩ : ∃ p, p = P[i] := ⟨_, rfl⟩
          have hpp : p = prodR (T.getD i []) M n := by
            rw [hp, ← getD_get hiP [], HPe.out, prodM_getD hiT]
          have hpl : p.length = n := by rw [hpp]; exact prodR_length _ _ _
          rw [← hp, hpl] at hcl hrw
          have Hok := Lib.hid (show rowOK M F T i ↔ p = wantR M F i by unfold rowOK; rw [← Hn.out, ← hpp])
          have Hpb2 := Lib.hid (show ∀ z ∈ p, (pc z.natAbs).length ≤ 100000000 by rw [hpp]; exact Hpb.out _ (by rw [getD_get hiT]; exact List.getElem_mem hiT))
          have Hpl := Lib.hid hpl
          have hclX := hEX.cell hcl
          have Hrw := Lib.hid (hrw.ext hEX)
          have hfalse := fun W (hW : Ext w W) (h : ¬ rowOK M F T i) => Lib.hid (show TrPost w M F T (.returned (.bool false)) W from ⟨false, rfl, ⟨(fun h => by cases h), (fun h2 => absurd (h2.2 i (by rw [Htl.out]; exact hlt)) h)⟩, hW⟩)
          have Hfalse := Lib.hid hfalse
          clear hp hpp hpl hcl hrw hfalse hiP hiT
          by_cases hif : i < fl
          · have hifi : ¬ (fl : Int) ≤ (i : Int) := by omega
            have hifd : decide ((fl : Int) ≤ (i : Int)) = false := decide_eq_false hifi
            have hifj : (i : Int) < (fl : Int) := by omega
            have hiF : i < F.length := by rw [← Hfl.out]; exact hif
            obtain rfl := HSf.out.addr (by rw [Hvf.out]; omega)
            obtain ⟨sw, bw, ow, cw, hrF, hrcw, hSw⟩ := MatR.row HSf.out Hvf.out Hrf.out hiF
            have hwl : F[i].length = n := by rw [Hn.out]; exact HFr.out _ (List.getElem_mem hiF)
            have HW := Lib.hid (show RowR w (.slice sw n cw) (wantR M F i) from by
              unfold wantR; rw [if_pos hiF, getD_get hiF, ← hwl]
              exact ⟨sw, bw, ow, cw, rfl, hrcw, hSw⟩)
            rw [hwl] at hrF
            have hrFX := hEwX.cell hrF
            have hfr := Lib.hid (fromRow_w Hrw.out.row Hpb2.out (by rw [Hpl.out]; omega) (HL.out.ext hEwX))
            clear hrcw hSw hwl hiF
            go_wp2_with fail
            refine hfr.out.mono ?_
            rintro e w6 hP6
            obtain ⟨s6, n6, k6, o6, rfl, ho6, hr6, hE6⟩ := fr_open2 hP6
            have hEw6 := hEwX.trans hE6
            have hrF6 := hE6.cell hrFX
            have Ho6 := Lib.hid ho6
            have Hr6 := Lib.hid hr6
            clear hfr hP6 ho6 hr6
            cases o6 with
            | false =>
              have hfin := Hfalse.out w6 hEw6 (fun h => by
                have h2 := Ho6.out
                rw [Hok.out.1 h, wantR_small HeF.out] at h2; cases h2)
              go_wp2_with fail
              go_ret
              exact hfin.out
            | true =>
              have heq := Lib.hid (EqualRows_any (Hr6.out rfl) (HW.out.ext hEw6) (by rw [Hpl.out]; omega))
              obtain ⟨bq, hbq⟩ : ∃ bq, bq = decide (p = wantR M F i) := ⟨_, rfl⟩
              rw [← hbq] at heq
              have Hbq := Lib.hid hbq
              clear hbq
              go_wp2_with fail
              refine heq.out.mono ?_
              rintro e w7 ⟨rfl, hE7⟩
              have hEw7 := hEw6.trans hE7
              have hE57 := hEX.trans (hE6.trans hE7)
              clear heq
              cases bq with
              | false =>
                have hfin := Hfalse.out w7 hEw7 (fun h => by
                  have h2 := Hbq.out
                  rw [decide_eq_true (Hok.out.1 h)] at h2; cases h2)
                go_wp2_with fail
                go_ret
                exact hfin.out
              | true =>
                have hR2 := Lib.hid (show ∀ j, j < i + 1 → rowOK M F T j from fun j hj => by
                  by_cases e : j = i
                  · subst e; exact Hok.out.2 (of_decide_eq_true Hbq.out.symm)
                  · exact hR.out j (by omega))
                go_wp2_with fail
                go_roundw
                case rel => exact ⟨i + 1, by omega, by go_num, hR2, hE57⟩
                case measure => simp [intOf] <;> omega
          · have hifi : (fl : Int) ≤ (i : Int) := by omega
            have hwz : wantR M F i = List.replicate n 0 := by unfold wantR; rw [if_neg (by rw [← Hfl.out]; exact hif), ← Hn.out]
            have hz := Lib.hid (zero_w Hrw.out.row (by rw [Hpl.out]; omega))
            obtain ⟨bz, hbz⟩ : ∃ bz, bz = allZ p := ⟨_, rfl⟩
            rw [← hbz] at hz
            have Hbz := Lib.hid (show bz = true ↔ rowOK M F T i by rw [Hok.out, hwz, hbz]; exact allZ_rep Hpl.out)
            clear hwz hbz
            go_wp2_with fail
            refine hz.out.mono ?_
            rintro e w6 ⟨rfl, hE6⟩
            have hEw6 := hEwX.trans hE6
            have hE56 := hEX.trans hE6
            clear hz
            cases bz with
            | false =>
              have hfin := Hfalse.out w6 hEw6 (fun h => by have h2 := Hbz.out.2 h; cases h2)
              go_wp2_with fail
              go_ret
              exact hfin.out
            | true =>
              have hR2 := Lib.hid (show ∀ j, j < i + 1 → rowOK M F T j from fun j hj => by
                by_cases e : j = i
                · subst e; exact Hbz.out.1 rfl
                · exact hR.out j (by omega))
              go_wp2_with fail
              go_roundw
              case rel => exact ⟨i + 1, by omega, by go_num, hR2, hE56⟩
              case measure => simp [intOf] <;> omega
        · have hfin := Lib.hid (show TrPost w M F T (.returned (.bool true)) X from ⟨true, rfl, ⟨fun _ => ⟨Huni.out, fun j hj => hR.out j (by rw [Htl.out] at hj; omega)⟩, fun _ => rfl⟩, hEwX⟩)
          have hfli : (fl : Int) ≤ (m : Int) := by omega
          have hfld : decide ((fl : Int) ≤ (m : Int)) = true := decide_eq_true hfli
          go_wp2_with fail
          go_ret
          exact hfin.out
end Go.Proofs.YthmhmkkcjlgbjaaGreatDoor
/- schismalaw07: form -/
namespace Go.Proofs.YthmhmkkcjlgbjaaGreatDoor
open Go.RowKit Go.Sort
def FoPost (n : Nat) (M : Mx) (w : World) (e : Ending) (w' : World) : Prop := ∃ F, HnfOf n M F ∧ F.length ≤ M.length ∧ FmPost w.heap.size F w e w'
theorem FmPost.ext {B B' : Nat} {F : Mx} {w w1 : World} {e : Ending} {w' : World} (h : FmPost B F w1 e w') (hE : Ext w w1) (hB : B' ≤ B) : FmPost B' F w e w' := by
  rcases h with ⟨hs, u, he, hu, h⟩ | ⟨hs, he, h⟩
  · obtain ⟨vs, h1, h2, h3⟩ := hu
    exact .inl ⟨hs, u, he, ⟨vs, h1, ownsRow_mono h2 hB, fun t a b => (h3 t a b).mono hB⟩, hE.trans h⟩
  · exact .inr ⟨hs, he, hE.trans h⟩
set_option maxRecDepth 100000 in
set_option maxHeartbeats 1000000 in
theorem form07_any {w : World} {v : Value} {M : Mx} {n : Nat} (hM : MatR w v M) (hRc : Rect n M) (hml : M.length ≤ 1000000) (hnl : n ≤ 1000000) (hb : ∀ r ∈ M, ∀ z ∈ r, -1000000000 ≤ z ∧ z ≤ 1000000000) (hk : rkB M.length 30 n ≤ 2900000000) (hL : Laid w) :
    Calls Tryz.prog 28 #[v] w (FoPost n M w) := by
  have HL := Lib.hid hL
  have HRc := Lib.hid hRc
  have Hb30 := Lib.hid (show AllB 30 M from fun r hr z hz => by
    have e : (2 : Nat) ^ 30 = 1073741824 := by decide
    have := hb r hr z hz
    rw [e]; omega)
  have hto := Lib.hid (to_m hM (fun r hr z hz => by have := hb r hr z hz; unfold I64; omega) hml (fun r hr => by rw [hRc r hr]; exact hnl) hL)
  clear hM hRc hb hL
  go_enter Tryz.func28, Tryz.ntmps28
  go_wp2_with fail
  refine hto.out.mono ?_
  rintro e w1 ⟨v1, rfl, hv1, hE1⟩
  have hfo := Lib.hid (form_w hv1.mat HRc.out hml hnl Hb30.out hk (HL.out.ext hE1))
  clear hto hv1
  go_wp2_with fail
  refine hfo.out.mono ?_
  rintro e w2 ⟨v2, F, rfl, hH, hB, hFl, hv2, hE2⟩
  have hE12 := hE1.trans hE2
  have hsz := hE12.size
  have HH := Lib.hid hH
  have hfr := Lib.hid (from_m hv2.mat (fun r hr => bits_pc hk (hB r hr)) (by omega) (fun r hr => by
    obtain ⟨⟨ps, hI⟩, _⟩ := hH
    rw [hI.rect r hr]; exact hnl) (HL.out.ext hE12))
  clear hfo hv2 hB hH
  go_wp2_with fail
  refine hfr.out.mono ?_
  rintro e w3 hP
  have hP' := hP.ext hE12 hsz
  rcases hP with ⟨hs, u, rfl, hu, h⟩ | ⟨hs, rfl, h⟩
  · have hfin := Lib.hid (show FoPost n M w (.returned (.tuple #[u, .bool true])) w3 from ⟨F, HH.out, hFl, hP'⟩)
    clear hfr hP' hu
    go_wp2_with fail
    go_ret2
    exact hfin.out
  · have hfin := Lib.hid (show FoPost n M w (.returned (.tuple #[.slice none 0 0, .bool false])) w3 from ⟨F, HH.out, hFl, hP'⟩)
    clear hfr hP'
    go_wp2_with fail
    go_ret2
    exact hfin.out
end Go.Proofs.YthmhmkkcjlgbjaaGreatDoor
/- literals in memory; the known answers in plain Lean -/
namespace Go.Proofs.YthmhmkkcjlgbjaaGreatDoor
open Go.RowKit Go.Sort
theorem row2 {W : World} {b : Nat} {x y : Int} (c0 : W.cell? ⟨b, 0, none⟩ = some (.int .i64 x)) (c1 : W.cell? ⟨b, 1, none⟩ = some (.int .i64 y)) : RowR W (.slice (some ⟨b, 0, none⟩) 2 2) [x, y] :=
  ⟨_, b, 0, 2, rfl, Nat.le_refl _, fun _ => rfl, fun i v hv => by
    match i, hv with
    | 0, hv => simp [is] at hv; rw [← hv]; exact c0
    | 1, hv => simp [is] at hv; rw [← hv]; exact c1
    | i + 2, hv => simp [is] at hv⟩
theorem row3 {W : World} {b : Nat} {x y z : Int} (c0 : W.cell? ⟨b, 0, none⟩ = some (.int .i64 x)) (c1 : W.cell? ⟨b, 1, none⟩ = some (.int .i64 y)) (c2 : W.cell? ⟨b, 2, none⟩ = some (.int .i64 z)) : RowR W (.slice (some ⟨b, 0, none⟩) 3 3) [x, y, z] :=
  ⟨_, b, 0, 3, rfl, Nat.le_refl _, fun _ => rfl, fun i v hv => by
    match i, hv with
    | 0, hv => simp [is] at hv; rw [← hv]; exact c0
    | 1, hv => simp [is] at hv; rw [← hv]; exact c1
    | 2, hv => simp [is] at hv; rw [← hv]; exact c2
    | i + 3, hv => simp [is] at hv⟩
theorem mat2 {W : World} {b : Nat} {v1 v2 : Value} {r1 r2 : List Int} (c0 : W.cell? ⟨b, 0, none⟩ = some v1) (c1 : W.cell? ⟨b, 1, none⟩ = some v2) (R1 : RowR W v1 r1) (R2 : RowR W v2 r2) : MatR W (.slice (some ⟨b, 0, none⟩) 2 2) [r1, r2] :=
  ⟨_, b, 0, 2, [v1, v2], rfl, Nat.le_refl _, rfl, ⟨fun _ => rfl, fun i v hv => by
    match i, hv with
    | 0, hv => simp at hv; rw [← hv]; exact c0
    | 1, hv => simp at hv; rw [← hv]; exact c1
    | i + 2, hv => simp at hv⟩, fun i h h' => by
    match i, h with
    | 0, _ => exact R1
    | 1, _ => exact R2⟩
theorem span2 {r1 r2 v : Hnf.V} (a b : Int) (h : ∀ j, v j = a * r1 j + b * r2 j) : Hnf.Span [r1, r2] v := by
  have e : v = Hnf.sub (Hnf.sub (fun _ => 0) (-a) r1) (-b) r2 := by
    funext j
    rw [h j]; simp only [Hnf.sub]; grind
  rw [e]
  exact Hnf.Span.step _ (Hnf.Span.step _ Hnf.Span.zero (by simp)) (by simp)
theorem vr3 {x y z x1 y1 z1 x2 y2 z2 : Int} (a b : Int) (h0 : x = a * x1 + b * x2) (h1 : y = a * y1 + b * y2) (h2 : z = a * z1 + b * z2) : ∀ j, vr [x, y, z] j = a * vr [x1, y1, z1] j + b * vr [x2, y2, z2] j
  | 0 => by simpa [vr] using h0
  | 1 => by simpa [vr] using h1
  | 2 => by simpa [vr] using h2
  | j + 3 => by simp [vr]
theorem known_hnf : HnfOf 3 [[-4, 4, -1], [7, 0, -3]] [[1, 20, -14], [0, 28, -19]] := by
  refine ⟨⟨_, isF_isH (fun r hr => ?_) (by decide)⟩, fun v hv => ?_, fun v hv => ?_⟩
  · simp at hr; rcases hr with rfl | rfl <;> rfl
  · simp only [latM, List.map_cons, List.map_nil, List.mem_cons, List.not_mem_nil, or_false] at hv
    rcases hv with rfl | rfl
    · exact span2 5 3 (vr3 5 3 (by decide) (by decide) (by decide))
    · exact span2 7 4 (vr3 7 4 (by decide) (by decide) (by decide))
  · simp only [latM, List.map_cons, List.map_nil, List.mem_cons, List.not_mem_nil, or_false] at hv
    rcases hv with rfl | rfl
    · exact span2 (-4) 3 (vr3 (-4) 3 (by decide) (by decide) (by decide))
    · exact span2 7 (-5) (vr3 7 (-5) (by decide) (by decide) (by decide))
theorem known_hnf2 : HnfOf 2 [[2, 0], [0, 3]] [[2, 0], [0, 3]] := by
  refine ⟨⟨_, isF_isH (fun r hr => ?_) (by decide)⟩, fun v hv => .mem hv, fun v hv => .mem hv⟩
  simp at hr; rcases hr with rfl | rfl <;> rfl
theorem known_c1 : checkM [[-4, 4, -1], [7, 0, -3]] = 0 := by decide
theorem known_k1 : bC ([[-4, 4, -1], [7, 0, -3]] : Mx).length 30 (ncols [[-4, 4, -1], [7, 0, -3]]) + 2 < LIM := by decide
theorem known_s1 : smallM [[1, 20, -14], [0, 28, -19]] = true := by decide
theorem known_o : openE [[2, 0], [0, 3]] [5, -1] = 0 := by decide
theorem known_x : redX [[2, 0], [0, 3]] [5, -1] = [1, 2] := by decide
theorem known_q : redQ [[2, 0], [0, 3]] [5, -1] = [2, -1] := by decide
theorem known_sm : (smallB [1, 2] && smallB [2, -1]) = true := by decide
theorem known_p : pairE [[1, 0], [0, 1]] [[2, 0], [0, 3]] = 0 := by decide
theorem known_k2 : 13 * (bC ([[2, 0], [0, 3]] : Mx).length 30 (ncols [[2, 0], [0, 3]]) + 2) < LIM := by decide
theorem known_in : inclB [[1, 0], [0, 1]] [[2, 0], [0, 3]] = true := by decide
theorem known_ix : idxN [[1, 0], [0, 1]] [[2, 0], [0, 3]] 2 = 6 := by decide
theorem I_six : I 6 = .string ⟨#[54]⟩ := by unfold I S; rw [show (6 : Int) = ((6 : Nat) : Int) from rfl, itoa_nat, Lib.decDigits]; rfl
theorem known_form {w : World} {v : Value} (hM : MatR w v [[-4, 4, -1], [7, 0, -3]]) (hL : Laid w) :
    Calls Tryz.prog 12 #[v] w fun e w' => ∃ u, e = .returned (.tuple #[u, .int .i64 0]) ∧ MatR w' u [[1, 20, -14], [0, 28, -19]] ∧ Ext w w' :=
  (form_any hM known_c1 known_k1 hL).mono fun e w' ⟨F, hF, hP, hE⟩ => by
    have : F = [[1, 20, -14], [0, 28, -19]] := hF.unique known_hnf (fun v hv => .mem hv) (fun v hv => .mem hv)
    subst this
    rw [if_pos known_s1] at hP
    obtain ⟨u, rfl, hO⟩ := hP
    exact ⟨u, rfl, hO.mat, hE⟩
theorem known_reduce {w : World} {v x : Value} (hM : MatR w v [[2, 0], [0, 3]]) (hx : RowR w x [5, -1]) (hL : Laid w) :
    Calls Tryz.prog 38 #[v, x] w fun e w' => ∃ u1 u2, e = .returned (.tuple #[u1, u2, .int .i64 0]) ∧ RowR w' u1 [1, 2] ∧ RowR w' u2 [2, -1] ∧ Ext w w' :=
  (Reduce_any hM hx hL).mono fun e w' ⟨hP, hE⟩ => by
    rw [if_pos known_o, known_x, known_q, if_pos known_sm] at hP
    obtain ⟨u1, u2, rfl, h1, h2⟩ := hP
    exact ⟨u1, u2, rfl, h1.row, h2.row, hE⟩
theorem known_index {w : World} {v u : Value} (hM : MatR w v [[1, 0], [0, 1]]) (hu : MatR w u [[2, 0], [0, 3]]) (hL : Laid w) :
    Calls Tryz.prog 14 #[v, u] w fun e w' => e = .returned (.tuple #[.string ⟨#[54]⟩, .bool true, .int .i64 0]) ∧ Ext w w' :=
  (Index_ok hM hu known_p known_k2 hL).mono fun e w' ⟨hP, hE⟩ => by
    rw [if_pos known_in] at hP
    obtain ⟨G, hG, hP⟩ := hP
    have : G = [[2, 0], [0, 3]] := hG.unique known_hnf2 (fun v hv => .mem hv) (fun v hv => .mem hv)
    subst this
    rw [if_neg (by decide), show ([[1, 0], [0, 1]] : Mx).length = 2 from rfl, known_ix, I_six] at hP
    exact ⟨hP, hE⟩
theorem eqr_same {w : World} {va vb : Value} {a : List Int} (hA : RowR w va a) (hB : RowR w vb a) (hb : a.length ≤ 1000000) :
    Calls Tryz.prog 26 #[va, vb] w fun e w' => e = .returned (.bool true) ∧ Ext w w' := by
  have := EqualRows_any hA hB hb
  rwa [decide_eq_true rfl] at this
theorem eqm_same {w : World} {va vb : Value} {A : Mx} (hA : MatR w va A) (hB : MatR w vb A) (hb : A.length ≤ 1000000) (hr : ∀ r ∈ A, r.length ≤ 1000000) :
    Calls Tryz.prog 17 #[va, vb] w fun e w' => e = .returned (.bool true) ∧ Ext w w' := by
  have := Equal_any hA hB hb hr
  rwa [decide_eq_true rfl] at this
end Go.Proofs.YthmhmkkcjlgbjaaGreatDoor
/- schismalaw07: known -/
namespace Go.Proofs.YthmhmkkcjlgbjaaGreatDoor
open Go.RowKit Go.Sort
set_option maxRecDepth 100000 in
set_option maxHeartbeats 2000000 in
theorem known_any {w : World} (hL : Laid w) : Calls Tryz.prog 10 #[] w fun e w' => e = .returned (.bool true) ∧ Ext w w' := by
  have HL := Lib.hid hL
  clear hL
  go_enter Tryz.func10, Tryz.ntmps10
  go_wp2_with fail
  refine (known_form (mat2 (v1 := .slice (some ⟨w.heap.size, 0, none⟩) 3 3) (v2 := .slice (some ⟨w.heap.size + 1, 0, none⟩) 3 3) (by go_simp) (by go_simp) (row3 (by go_simp) (by go_simp) (by go_simp)) (row3 (by go_simp) (by go_simp) (by go_simp))) (HL.out.ext ((((Ext.refl w).alloc _).alloc _).alloc _))).mono ?_
  rintro e w1 ⟨u, rfl, hu, hE1⟩
  have hE1' := Lib.hid (((((Ext.refl w).alloc _).alloc _).alloc _).trans hE1)
  have Hu := Lib.hid hu
  clear hu hE1
  go_wp2_with fail
  refine (known_reduce (mat2 (v1 := .slice (some ⟨w1.heap.size, 0, none⟩) 2 2) (v2 := .slice (some ⟨w1.heap.size + 1, 0, none⟩) 2 2) (by go_simp) (by go_simp) (row2 (by go_simp) (by go_simp)) (row2 (by go_simp) (by go_simp))) (row2 (by go_simp) (by go_simp)) (HL.out.ext (hE1'.out.trans (((((Ext.refl w1).alloc _).alloc _).alloc _).alloc _)))).mono ?_
  rintro e w2 ⟨u1, u2, rfl, hu1, hu2, hE2⟩
  have hE2' := Lib.hid (hE1'.out.trans ((((((Ext.refl w1).alloc _).alloc _).alloc _).alloc _).trans hE2))
  have Hu' := Lib.hid (Hu.out.ext ((((((Ext.refl w1).alloc _).alloc _).alloc _).alloc _).trans hE2))
  have Hu1 := Lib.hid hu1
  have Hu2 := Lib.hid hu2
  clear hu1 hu2 hE2 Hu hE1'
  go_wp2_with fail
  refine (known_index (mat2 (v1 := .slice (some ⟨w2.heap.size, 0, none⟩) 2 2) (v2 := .slice (some ⟨w2.heap.size + 1, 0, none⟩) 2 2) (by go_simp) (by go_simp) (row2 (by go_simp) (by go_simp)) (row2 (by go_simp) (by go_simp))) (mat2 (v1 := .slice (some ⟨w2.heap.size + 3, 0, none⟩) 2 2) (v2 := .slice (some ⟨w2.heap.size + 4, 0, none⟩) 2 2) (by go_simp) (by go_simp) (row2 (by go_simp) (by go_simp)) (row2 (by go_simp) (by go_simp))) (HL.out.ext (hE2'.out.trans (((((((Ext.refl w2).alloc _).alloc _).alloc _).alloc _).alloc _).alloc _)))).mono ?_
  rintro e w3 ⟨rfl, hE3⟩
  have hE23 := Lib.hid ((((((((Ext.refl w2).alloc _).alloc _).alloc _).alloc _).alloc _).alloc _).trans hE3)
  have hE3' := Lib.hid (hE2'.out.trans hE23.out)
  clear hE3 hE2'
  go_wp2_with fail
  refine (eqm_same (A := [[1, 20, -14], [0, 28, -19]]) (Hu'.out.ext (hE23.out.trans ((((Ext.refl w3).alloc _).alloc _).alloc _))) (mat2 (v1 := .slice (some ⟨w3.heap.size, 0, none⟩) 3 3) (v2 := .slice (some ⟨w3.heap.size + 1, 0, none⟩) 3 3) (by go_simp) (by go_simp) (row3 (by go_simp) (by go_simp) (by go_simp)) (row3 (by go_simp) (by go_simp) (by go_simp))) (by decide) (by decide)).mono ?_
  rintro e w4 ⟨rfl, hE4⟩
  have hE34 := Lib.hid (((((Ext.refl w3).alloc _).alloc _).alloc _).trans hE4)
  clear hE4
  go_wp2_with fail
  refine (eqr_same (a := [1, 2]) (Hu1.out.ext ((hE23.out.trans hE34.out).trans ((Ext.refl w4).alloc _))) (row2 (by go_simp) (by go_simp)) (by decide)).mono ?_
  rintro e w5 ⟨rfl, hE5⟩
  have hE45 := Lib.hid (((Ext.refl w4).alloc _).trans hE5)
  clear hE5
  go_wp2_with fail
  refine (eqr_same (a := [2, -1]) (Hu2.out.ext (((hE23.out.trans hE34.out).trans hE45.out).trans ((Ext.refl w5).alloc _))) (row2 (by go_simp) (by go_simp)) (by decide)).mono ?_
  rintro e w6 ⟨rfl, hE6⟩
  have hE56 := Lib.hid (((Ext.refl w5).alloc _).trans hE6)
  clear hE6
  go_wp2_with fail
  go_ret
  exact ⟨rfl, ((hE3'.out.trans hE34.out).trans hE45.out).trans hE56.out⟩
end Go.Proofs.YthmhmkkcjlgbjaaGreatDoor
/- schismalaw07: few, none -/
namespace Go.Proofs.YthmhmkkcjlgbjaaGreatDoor
open Go.RowKit Go.Sort
/-- few, but for the number of rows. -/
def fewRow (n : Nat) (r : List Int) : Bool := !(decide (5 < r.length) && (decide (1 < n) || decide (14 < r.length)))
def fewN (n : Nat) : Bool := decide (n ≤ 5) || (decide (12 ≤ n) && decide (n ≤ 14))
def fewM (M : Mx) : Bool := fewN M.length && M.all (fewRow M.length)
set_option maxRecDepth 100000 in
set_option maxHeartbeats 1000000 in
theorem few_any {w : World} {v : Value} {M : Mx} (hM : MatR w v M) :
    Calls Tryz.prog 19 #[v] w fun e w' => e = .returned (.bool (fewM M)) ∧ Ext w w' := by
  obtain ⟨sa, gb, go, cap, vs, rfl, hcap, hvl, hS, hr⟩ := hM
  have HS := Lib.hid hS
  have HV := Lib.hid hvl
  have HR := Lib.hid hr
  clear hS hvl hr
  obtain ⟨n, hn⟩ : ∃ n, n = M.length := ⟨_, rfl⟩
  rw [← hn]
  have Hn := Lib.hid hn
  clear hn hcap
  by_cases h1 : fewN n = true
  · have Hall : Hid (fewM M = M.all (fewRow n)) := Lib.hid (by unfold fewM; rw [← Hn.out, h1]; rfl)
    have H1 := Lib.hid h1
    have hA : (n : Int) ≤ 5 ∨ ((5 : Int) < n ∧ (12 : Int) ≤ n ∧ (n : Int) ≤ 14) := by
      unfold fewN at h1
      by_cases h5 : n ≤ 5
      · exact .inl (by omega)
      · rw [decide_eq_false h5, Bool.false_or, Bool.and_eq_true] at h1
        have ha := of_decide_eq_true h1.1
        have hb := of_decide_eq_true h1.2
        exact .inr ⟨by omega, by omega, by omega⟩
    have hnb : n ≤ 1000000 := by omega
    clear h1
    go_enter Tryz.func19, Tryz.ntmps19
    rcases hA with h | ⟨h5, h12, h14⟩
    focus
      have hd : decide ((5 : Int) < (n : Int)) = false := decide_eq_false (by omega)
      go_wp2_with fail
    rotate_left
    focus
      have hd : decide ((n : Int) < 12) = false := decide_eq_false (by omega)
      have hd2 : decide ((14 : Int) < (n : Int)) = false := decide_eq_false (by omega)
      go_wp2_with fail
    all_goals
      go_loopw [3] (fun idx wr => ∃ i : Nat, i ≤ n ∧ idx = .int .i64 i ∧ Hid (∀ j, (h : j < M.length) → j < i → fewRow n M[j] = true) ∧ Ext w wr) (fun idx _ => n - (intOf idx).toNat)
      case atStart => exact ⟨0, by omega, by go_num, Lib.hid (fun j _ h => by omega), Ext.refl _⟩
      case round =>
        obtain ⟨i, hi, rfl, Hz, hE⟩ := hrel
        generalize wr = X at *
        by_cases hlt : i < n
        · have hii : (i : Int) < (n : Int) := by omega
          have hiM : i < M.length := by rw [← Hn.out]; exact hlt
          obtain rfl := HS.out.addr (by rw [HV.out]; omega)
          obtain ⟨sr, br, or, cr, hrow, hrc, hSr⟩ := MatR.row HS.out HV.out HR.out hiM
          have hrow' := hE.cell hrow
          obtain ⟨l, hl⟩ : ∃ l, l = M[i].length := ⟨_, rfl⟩
          rw [← hl] at hrow'
          have Hl := Lib.hid hl
          clear hrow hrc hSr hl
          cases hf : fewRow n M[i]
          · have Hno := Lib.hid (show fewM M = false by
              rw [Hall.out]
              cases h : M.all (fewRow n)
              · rfl
              · have := List.all_eq_true.1 h _ (List.getElem_mem hiM); rw [hf] at this; cases this)
            unfold fewRow at hf
            rw [← Hl.out, Bool.not_eq_false', Bool.and_eq_true] at hf
            have h5 : (5 : Int) < (l : Int) := by have := of_decide_eq_true hf.1; omega
            by_cases hn1 : 1 < n
            · have hn1i : (1 : Int) < (n : Int) := by omega
              clear hf
              go_wp2_with fail
              go_ret
              exact ⟨by rw [Hno.out]; rfl, hE⟩
            · have hn1i : (n : Int) ≤ 1 := by omega
              have hn1d : decide ((1 : Int) < (n : Int)) = false := decide_eq_false (by omega)
              have h14 : (14 : Int) < (l : Int) := by
                rcases (by simpa only [Bool.or_eq_true] using hf.2 : decide (1 < n) = true ∨ decide (14 < l) = true) with h | h
                · exact absurd (of_decide_eq_true h) hn1
                · have := of_decide_eq_true h; omega
              clear hf
              go_wp2_with fail
              go_ret
              exact ⟨by rw [Hno.out]; rfl, hE⟩
          · have Hst := Lib.hid (show ∀ j, (h : j < M.length) → j < i + 1 → fewRow n M[j] = true from fun j h hj => by
              by_cases e : j = i
              · subst e; exact hf
              · exact Hz.out j h (by omega))
            unfold fewRow at hf
            rw [← Hl.out, Bool.not_eq_true'] at hf
            by_cases h5 : 5 < l
            · have h5i : (5 : Int) < (l : Int) := by omega
              rw [decide_eq_true h5, Bool.true_and, Bool.or_eq_false_iff] at hf
              have hn1 : ¬ 1 < n := of_decide_eq_false hf.1
              have h14 : ¬ 14 < l := of_decide_eq_false hf.2
              have hn1i : (n : Int) ≤ 1 := by omega
              have hn1d : decide ((1 : Int) < (n : Int)) = false := decide_eq_false (by omega)
              have h14d : decide ((14 : Int) < (l : Int)) = false := decide_eq_false (by omega)
              clear hf hn1 h14 h5
              go_wp2_with fail
              go_roundw
              case rel => exact ⟨i + 1, by omega, by go_num, Hst, hE⟩
              case measure => simp [intOf] <;> omega
            · have h5i : (l : Int) ≤ 5 := by omega
              have h5d : decide ((5 : Int) < (l : Int)) = false := decide_eq_false (by omega)
              clear hf h5
              go_wp2_with fail
              go_roundw
              case rel => exact ⟨i + 1, by omega, by go_num, Hst, hE⟩
              case measure => simp [intOf] <;> omega
        · have Hyes := Lib.hid (show fewM M = true by
            rw [Hall.out]
            refine List.all_eq_true.2 fun r hr => ?_
            obtain ⟨j, hj, rfl⟩ := List.getElem_of_mem hr
            exact Hz.out j hj (by have := Hn.out; omega))
          go_wp2_with fail
          go_ret
          exact ⟨by rw [Hyes.out]; rfl, hE⟩
  · have Hno := Lib.hid (show fewM M = false by unfold fewM; rw [← Hn.out, Bool.eq_false_iff.2 h1]; rfl)
    have hA : ((5 : Int) < n ∧ (n : Int) < 12) ∨ ((5 : Int) < n ∧ (12 : Int) ≤ n ∧ (14 : Int) < n) := by
      have h2 := Bool.eq_false_iff.2 h1
      unfold fewN at h2
      rw [Bool.or_eq_false_iff, Bool.and_eq_false_iff] at h2
      have h5 : ¬ n ≤ 5 := of_decide_eq_false h2.1
      rcases h2.2 with h | h
      · have := of_decide_eq_false h; exact .inl ⟨by omega, by omega⟩
      · have := of_decide_eq_false h; exact .inr ⟨by omega, by omega, by omega⟩
    rw [Hno.out]
    clear h1
    go_enter Tryz.func19, Tryz.ntmps19
    rcases hA with ⟨h5, h12⟩ | ⟨h5, h12, h14⟩
    · go_wp2_with fail
      go_ret
      exact ⟨rfl, Ext.refl _⟩
    · have hd : decide ((n : Int) < 12) = false := decide_eq_false (by omega)
      go_wp2_with fail
      go_ret
      exact ⟨rfl, Ext.refl _⟩
/-- none without rows: whether the matrix is empty. -/
theorem none_nil {sa : Option Addr} {n cp : Nat} (w : World) : Calls Tryz.prog 24 #[.slice sa n cp, .slice none 0 0] w fun e w' => e = .returned (.bool (decide (n = 0))) ∧ Ext w w' := by
  by_cases h : n = 0
  · subst h
    go_enter Tryz.func24, Tryz.ntmps24
    go_wp2_with fail
    go_loop [5] (fun idx => idx = .int .i64 0) (fun _ => 0)
    case atStart => rfl
    case round =>
      obtain rfl := hrel
      go_wp2_with fail
      go_ret
      exact ⟨rfl, Ext.refl _⟩
  · rw [decide_eq_false h]
    have h0 : ((n : Int) == 0) = false := beq_eq_false_iff_ne.2 (by omega)
    go_enter Tryz.func24, Tryz.ntmps24
    go_wp2_with fail
    go_loop [5] (fun idx => idx = .int .i64 0) (fun _ => 0)
    case atStart => rfl
    case round =>
      obtain rfl := hrel
      go_wp2_with fail
      go_ret
      exact ⟨rfl, Ext.refl _⟩
end Go.Proofs.YthmhmkkcjlgbjaaGreatDoor
