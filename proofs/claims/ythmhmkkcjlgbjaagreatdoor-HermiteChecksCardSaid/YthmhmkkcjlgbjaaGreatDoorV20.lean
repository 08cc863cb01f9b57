/- Part 20 of the proof of the claim: contracts of the functions that it reaches, and plain laws; no condition. -/
import Derived.Test.YthmhmkkcjlgbjaaGreatDoorV16
import Derived.Test.YthmhmkkcjlgbjaaGreatDoorV19
import Derived.Test.YthmhmkkcjlgbjaaGreatDoorCards
import Derived.Test.YthmhmkkcjlgbjaaGreatDoorTie
import Derived.SevenTiedAt
/- schismaref07: first, Pivots -/
namespace Go.Proofs.YthmhmkkcjlgbjaaGreatDoor
open Go.RowKit Go.Sort
set_option maxRecDepth 100000 in
set_option maxHeartbeats 1000000 in
theorem first07_any {w : World} {v : Value} {r : List Int} (hR : RowR w v r) (hbig : r.length ≤ 1000000) :
    Calls Tryz.prog 60 #[v] w fun e w' => e = .returned (.int .i64 (pvI r)) ∧ Ext w w' := by
  obtain ⟨sa, gb, go, cap, rfl, hc, hS⟩ := hR
  have HS := Lib.hid hS
  obtain ⟨n, hn⟩ : ∃ n, n = r.length := ⟨_, rfl⟩
  rw [← hn] at hbig
  have Hn := Lib.hid hn
  rw [← hn]
  clear hS hc hn
  go_enter Tryz.func60, Tryz.ntmps60
  go_wp2_with fail
  go_loopw [3] (fun idx wr => ∃ i : Nat, i ≤ n ∧ idx = .int .i64 i ∧ Hid (∀ j, j < i → r.getD j 0 = 0) ∧ Ext w wr) (fun idx _ => n - (intOf idx).toNat)
  case atStart => exact ⟨0, by omega, by go_num, Lib.hid (fun j h => by omega), Ext.refl _⟩
  case round =>
    obtain ⟨i, hi, rfl, Hz, hE⟩ := hrel
    generalize wr = X at *
    by_cases hlt : i < n
    · have hii : (i : Int) < (n : Int) := by omega
      have c1 := (HS.out.ext hE).cell i (.int .i64 (r[i]'(by rw [← Hn.out]; exact hlt))) (is_get (by rw [← Hn.out]; exact hlt))
      obtain rfl := HS.out.addr (by rw [is_length, ← Hn.out]; omega)
      obtain ⟨x, hx⟩ : ∃ x, x = r[i]'(by rw [← Hn.out]; exact hlt) := ⟨_, rfl⟩
      rw [← hx] at c1
      have Hx := Lib.hid (show r.getD i 0 = x by rw [hx, getD_get (by rw [← Hn.out]; exact hlt)])
      clear hx
      by_cases hx0 : x = 0
      · subst hx0
        go_wp2_with fail
        go_roundw
        case rel => exact ⟨i + 1, by omega, by go_num, Lib.hid (fun j hj => by
          by_cases e : j = i
          · subst e; exact Hx.out
          · exact Hz.out j (by omega)), hE⟩
        case measure => simp [intOf] <;> omega
      · have hb1 : (x == 0) = false := beq_eq_false_iff_ne.2 hx0
        have hb2 : (x != 0) = true := by simp [bne, hb1]
        have hp := pv_of (r := r) (p := i) (by rw [Hx.out]; exact hx0) Hz.out
        have Hp := Lib.hid (show pvI r = (i : Int) by unfold pvI; rw [hp.1, if_pos hp.2])
        clear hp
        go_wp2_with fail
        go_ret
        exact ⟨by rw [Hp.out]; rfl, hE⟩
    · have hp : ¬ pv r < r.length := fun h => pv_ne h (Hz.out _ (by rw [← Hn.out] at h; omega))
      have Hp := Lib.hid (show pvI r = -1 by unfold pvI; rw [if_neg hp])
      clear hp
      go_wp2_with fail
      go_ret
      exact ⟨by rw [Hp.out]; rfl, hE⟩
set_option maxRecDepth 100000 in
set_option maxHeartbeats 1000000 in
theorem Pivots07_any {w : World} {v : Value} {M : Mx} (hM : MatR w v M) (hml : M.length ≤ 1000000) (hbr : ∀ r ∈ M, r.length ≤ 1000000) :
    Calls Tryz.prog 27 #[v] w fun e w' => ∃ v', e = .returned v' ∧ RowV w.heap.size w' v' (M.map pvI) ∧ Ext w w' := by
  obtain ⟨sa, gb, go, cap, vs, rfl, hcap, hvl, hS, hr⟩ := hM
  have HS := Lib.hid hS
  have HV := Lib.hid hvl
  have HR := Lib.hid hr
  clear hS hvl hr
  go_enter Tryz.func27, Tryz.ntmps27
  go_wp2_with fail
  go_loopw [3, 4] (fun out idx wr => ∃ i : Nat, i ≤ M.length ∧ idx = .int .i64 i ∧ Hid (RowV w.heap.size wr out ((M.map pvI).take i)) ∧ Ext w wr) (fun _ idx _ => M.length - (intOf idx).toNat)
  case atStart => exact ⟨0, by omega, by go_num, Lib.hid (RowV.nil _ _), Ext.refl _⟩
  case round =>
    obtain ⟨i, hi, rfl, hO, hE⟩ := hrel
    generalize wr = X at *
    by_cases hlt : i < M.length
    · have hii : (i : Int) < (M.length : Int) := by omega
      obtain rfl := HS.out.addr (by rw [HV.out]; omega)
      obtain ⟨sr, br, or, cr, hrow, hrc, hSr⟩ := MatR.row HS.out HV.out HR.out hlt
      have hrow' := hE.cell hrow
      have hpc := Lib.hid (first07_any (w := X) (v := .slice sr M[i].length cr) (r := M[i]) ⟨sr, br, or, cr, rfl, hrc, hSr.ext hE⟩ (hbr _ (List.getElem_mem hlt)))
      have hil : ((M.map pvI).take i).length = i := by rw [List.length_take, List.length_map]; omega
      have Hil := Lib.hid hil
      obtain ⟨q, hq⟩ : ∃ q, q = pvI M[i] := ⟨_, rfl⟩
      rw [← hq] at hpc
      have Hsn := Lib.hid (show (M.map pvI).take (i + 1) = (M.map pvI).take i ++ [q] by
        rw [List.take_succ_eq_append_getElem (by simpa using hlt), hq]; simp)
      clear hq hrow hrc hSr hil
      go_wp2_with fail
      refine hpc.out.mono ?_
      rintro e W ⟨rfl, hW⟩
      have HO2 := Lib.hid (hO.out.ext hW)
      have hE2 := Lib.hid (hE.trans hW)
      have hsz := hE2.out.size
      clear hpc hW
      go_wp2_with (at_builtin; refine app_int rfl _ _ 34 Tryz.underlying34 rfl rfl (HO2.out.ext ((Ext.refl _).alloc _)) rfl (b := W.heap.size) (z := q) (by go_simp) (by rw [Hil.out]; omega) (by simp; omega) ?_; intro gg cap2 w8 hO8 hB8 hG8; rw [Hil.out] at hO8 ⊢)
      rw [← Hsn.out] at hO8
      have hE8 : Ext w w8 := Below.trans (hE2.out.alloc (.cells #[.int .i64 q] 3)) hB8
      clear hG8 hB8
      go_wp2_with fail
      go_roundw
      case rel => exact ⟨i + 1, by omega, by go_num, Lib.hid hO8, hE8⟩
      case measure => simp [intOf] <;> omega
    · have hie : i = M.length := by omega
      subst hie
      go_wp2_with fail
      go_ret
      refine ⟨_, rfl, ?_, hE⟩
      have := hO.out
      rwa [List.take_of_length_le (by simp)] at this
end Go.Proofs.YthmhmkkcjlgbjaaGreatDoor
/- schismaref07: IsForm -/
namespace Go.Proofs.YthmhmkkcjlgbjaaGreatDoor
open Go.RowKit Go.Sort
set_option maxRecDepth 100000 in
set_option maxHeartbeats 1000000 in
theorem IsForm07_any {w : World} {v : Value} {M : Mx} {n : Nat} (hM : MatR w v M) (hR : Rect n M) (hl : M.length ≤ 1000000) (hn : n ≤ 1000000) :
    Calls Tryz.prog 25 #[v] w fun e w' => e = .returned (.bool (isF M)) ∧ Ext w w' := by
  obtain ⟨sa, gb, go, cap, vs, rfl, hcap, hvl, hS, hr⟩ := hM
  have HS := Lib.hid hS
  have HV := Lib.hid hvl
  have HR := Lib.hid hr
  have HRt := Lib.hid hR
  clear hS hvl hr hR
  go_enter Tryz.func25, Tryz.ntmps25
  go_wp2_with fail
  go_loopw [3, 4] (fun be idx wr => ∃ i : Nat, i ≤ M.length ∧ idx = .int .i64 i ∧ be = .int .i64 (bef M i) ∧ Hid (∀ j, j < i → rowOk M j = true) ∧ Ext w wr) (fun _ idx _ => M.length - (intOf idx).toNat)
  case atStart => exact ⟨0, by omega, by go_num, by unfold bef; rw [if_pos rfl], Lib.hid (fun j h => by omega), Ext.refl _⟩
  case round =>
    obtain ⟨i, hi, rfl, rfl, Hp, hE⟩ := hrel
    generalize wr = X at *
    by_cases hlt : i < M.length
    · have hii : (i : Int) < (M.length : Int) := by omega
      have hic : (i : Int) ≤ (cap : Int) := by omega
      obtain rfl := HS.out.addr (by rw [HV.out]; omega)
      obtain ⟨sr, br, or, cr, hrow, hrc, hSr⟩ := MatR.row HS.out HV.out HR.out hlt
      have hrl : M[i].length = n := HRt.out _ (List.getElem_mem hlt)
      have hrd : M.getD i [] = M[i] := getD_get hlt []
      obtain ⟨r, hrr⟩ : ∃ r, r = M[i] := ⟨_, rfl⟩
      rw [← hrr] at hrow hrc hSr hrl hrd
      rw [hrl] at hrow hrc
      have hrow' := hE.cell hrow
      have Hrl := Lib.hid hrl
      have Hrd := Lib.hid hrd
      have hpc := Lib.hid (first07_any (w := X) (v := .slice sr n cr) (r := r) ⟨sr, br, or, cr, by rw [Hrl.out], by rw [Hrl.out]; exact hrc, hSr.ext hE⟩ (by rw [Hrl.out]; exact hn))
      have hb1 := bef_ge M i
      have HSr := Lib.hid hSr
      clear hrow hrr hrl hrd hSr
      have hfin : ∀ W, Ext w W → rowOk M i = false → (.returned (.bool false) : Ending) = .returned (.bool (isF M)) ∧ Ext w W := fun W hW h => ⟨by rw [isF_no hlt h], hW⟩
      have Hfin := Lib.hid hfin
      clear hfin
      obtain ⟨be, hbe⟩ : ∃ be, be = bef M i := ⟨_, rfl⟩
      rw [← hbe] at hb1 ⊢
      have Hbe := Lib.hid hbe
      clear hbe
      by_cases h1 : pvI r ≤ be
      · have Hno := Lib.hid (rowOk_no1 (M := M) (i := i) (by rw [Hrd.out, ← Hbe.out]; exact h1))
        obtain ⟨q, hq⟩ : ∃ q, q = pvI r := ⟨_, rfl⟩
        rw [← hq] at h1 hpc
        clear hq
        go_wp2_with fail
        refine hpc.out.mono ?_
        rintro e W ⟨rfl, hW⟩
        go_wp2_with fail
        go_ret
        exact Hfin.out _ (hE.trans hW) Hno.out
      · have hpn : pv r < r.length ∧ pvI r = (pv r : Int) := by
          unfold pvI at h1 ⊢
          by_cases h : pv r < r.length
          · exact ⟨h, by rw [if_pos h]⟩
          · rw [if_neg h] at h1; omega
        rw [hpn.2] at hpc h1
        have hpn2 : pv r < n := by have := hpn.1; rw [Hrl.out] at this; exact this
        have hH1 := Lib.hid (show bef M i < pvI (M.getD i []) by rw [Hrd.out, hpn.2, ← Hbe.out]; omega)
        have HpI := Lib.hid hpn.2
        have ha := (HSr.out.ext hE).cell (pv r) (.int .i64 (r.getD (pv r) 0)) (by rw [getD_get hpn.1]; exact is_get hpn.1)
        obtain rfl := HSr.out.addr (by rw [is_length]; omega)
        obtain ⟨p, hp⟩ : ∃ p, p = pv r := ⟨_, rfl⟩
        obtain ⟨a, hae⟩ : ∃ a, a = r.getD p 0 := ⟨_, rfl⟩
        have heM : eM M i (pv (M.getD i [])) = a := by rw [Hrd.out, hae, hp]; unfold eM; rw [Hrd.out]
        rw [← hp] at hpc h1 hpn2 ha HpI
        rw [← hae] at ha
        have Hp1 := Lib.hid hp
        have Hae := Lib.hid hae
        have HeM := Lib.hid heM
        have hpi : (p : Int) < (n : Int) := by omega
        have h1b : be < (p : Int) := by omega
        have h1d : decide ((p : Int) ≤ be) = false := decide_eq_false (by omega)
        clear hp hae heM hpn h1
        by_cases h2 : a < 0
        · have Hno := Lib.hid (rowOk_no2 (M := M) (i := i) (by rw [HeM.out]; exact h2))
          go_wp2_with fail
          refine hpc.out.mono ?_
          rintro e W ⟨rfl, hW⟩
          have c5 := hW.cell hrow'
          have c6 := hW.cell ha
          go_wp2_with fail
          go_ret
          exact Hfin.out _ (hE.trans hW) Hno.out
        · have h20 : 0 ≤ a := by omega
          have h2d : decide (a < 0) = false := decide_eq_false h2
          clear h2
          go_wp2_with fail
          refine hpc.out.mono ?_
          rintro e W ⟨rfl, hW⟩
          have c5 := hW.cell hrow'
          have c6 := hW.cell ha
          have hEW := Lib.hid (hE.trans hW)
          clear hpc
          go_wp2_with fail
          go_loopw [6] (fun idx wr => ∃ k : Nat, k ≤ i ∧ idx = .int .i64 k ∧ Hid (∀ j, j < k → bad M i j = false) ∧ Ext W wr) (fun idx _ => i - (intOf idx).toNat)
          case atStart => exact ⟨0, by omega, by go_num, Lib.hid (fun j h => by omega), Ext.refl _⟩
          case round =>
            obtain ⟨k, hk, rfl, Hb, hEk⟩ := hrel
            generalize wr = Y at *
            have e5 := hEk.cell c5
            have e6 := hEk.cell c6
            by_cases hki : k < i
            · have hkii : (k : Int) < (i : Int) := by omega
              have hkM : k < M.length := by omega
              have hkl : (k : Int) < (M.length : Int) := by omega
              obtain ⟨sk, bk, ok, ck, hrk, hck, hSk⟩ := MatR.row HS.out HV.out HR.out hkM
              have hkn : M[k].length = n := HRt.out _ (List.getElem_mem hkM)
              rw [hkn] at hrk
              have hrkY := hEk.cell (hEW.out.cell hrk)
              have ck' := (hSk.ext (hEW.out.trans hEk)).cell p (.int .i64 (M[k].getD p 0)) (by rw [getD_get (by omega)]; exact is_get (by omega))
              obtain rfl := hSk.addr (by rw [is_length]; omega)
              have hbd : bad M i k = (decide (M[k].getD p 0 < 0) || decide (a ≤ M[k].getD p 0)) := by
                unfold bad
                rw [HeM.out]
                unfold eM
                rw [Hrd.out, ← Hp1.out, getD_get hkM []]
              obtain ⟨z, hz⟩ : ∃ z, z = M[k].getD p 0 := ⟨_, rfl⟩
              rw [← hz] at ck' hbd
              have Hbd := Lib.hid hbd
              clear hrk hck hSk hkn hbd hz
              by_cases z0 : z < 0
              · have Hno := Lib.hid (rowOk_no3 (M := M) (i := i) (anyB_iff.2 ⟨k, hki, by rw [Hbd.out, decide_eq_true z0]; rfl⟩))
                go_wp2_with fail
                go_quiet (fail)
                go_wp2_with fail
                go_ret
                exact Hfin.out _ ((hEW.out.trans hEk).drewN _) Hno.out
              · have z0d : decide (z < 0) = false := decide_eq_false z0
                have z0i : 0 ≤ z := by omega
                by_cases z1 : a ≤ z
                · have Hno := Lib.hid (rowOk_no3 (M := M) (i := i) (anyB_iff.2 ⟨k, hki, by rw [Hbd.out, decide_eq_true z1, Bool.or_true]⟩))
                  clear z0
                  go_wp2_with fail
                  go_quiet (fail)
                  go_wp2_with fail
                  go_ret
                  exact Hfin.out _ ((hEW.out.trans hEk).drewN _) Hno.out
                · have z1d : decide (a ≤ z) = false := decide_eq_false z1
                  have z1i : z < a := by omega
                  have Hok := Lib.hid (show bad M i k = false by rw [Hbd.out, z0d, z1d]; rfl)
                  clear z0 z1
                  go_wp2_with fail
                  go_quiet (fail)
                  go_wp2_with fail
                  go_roundw
                  case rel => exact ⟨k + 1, by omega, by go_num, Lib.hid (fun j hj => by
                    by_cases e : j = k
                    · subst e; exact Hok.out
                    · exact Hb.out j (by omega)), hEk.drewN _⟩
                  case measure => simp [intOf] <;> omega
            · have hkd : k = i := by omega
              have Hok := Lib.hid (rowOk_yes hH1.out (by rw [HeM.out]; exact h20) (anyB_no (fun j hj => Hb.out j (by omega))))
              go_wp2_with fail
              go_roundw
              case rel => exact ⟨i + 1, by omega, by go_num, by unfold bef; rw [if_neg (by omega), Nat.add_sub_cancel, Hrd.out, HpI.out], Lib.hid (fun j hj => by
                by_cases e : j = i
                · subst e; exact Hok.out
                · exact Hp.out j (by omega)), hEW.out.trans hEk⟩
              case measure => simp [intOf] <;> omega
    · have Hyes := Lib.hid (isF_yes (M := M) (fun j hj => Hp.out j (by omega)))
      go_wp2_with fail
      go_ret
      exact ⟨by rw [Hyes.out]; rfl, hE⟩
end Go.Proofs.YthmhmkkcjlgbjaaGreatDoor
/- schismaref07: Check -/
namespace Go.Proofs.YthmhmkkcjlgbjaaGreatDoor
open Go.RowKit Go.Sort
set_option maxRecDepth 100000 in
set_option maxHeartbeats 1000000 in
theorem Check07_any {w : World} {v : Value} {M : Mx} (hM : MatR w v M) :
    Calls Tryz.prog 20 #[v] w fun e w' => e = .returned (.int .i64 (checkM M)) ∧ Ext w w' := by
  obtain ⟨sa, gb, go, cap, vs, rfl, hcap, hvl, hS, hr⟩ := hM
  by_cases hbig : 12 < M.length
  · have hbi : (12 : Int) < (M.length : Int) := by omega
    have he : checkM M = 4 := by unfold checkM; rw [if_pos hbig]
    rw [he]
    clear he hS hr hvl
    go_enter Tryz.func20, Tryz.ntmps20
    go_wp2_with fail
    go_ret
    exact ⟨rfl, Ext.refl _⟩
  have he : checkM M = chk (M.getD 0 []).length M := by unfold checkM; rw [if_neg hbig]
  rw [he]
  obtain ⟨E0, hE0⟩ : ∃ E0, E0 = chk (M.getD 0 []).length M := ⟨_, rfl⟩
  rw [← hE0]
  have HE0 := Lib.hid hE0
  have hml : M.length ≤ 12 := by omega
  have hmi : (M.length : Int) ≤ 12 := by omega
  have HS := Lib.hid hS
  have HV := Lib.hid hvl
  have HR := Lib.hid hr
  clear hS hvl hr he hbig hE0
  go_enter Tryz.func20, Tryz.ntmps20
  go_wp2_with fail
  go_loopw [3] (fun idx wr => ∃ i : Nat, i ≤ M.length ∧ idx = .int .i64 i ∧ Hid (∀ j (h : j < M.length), j < i → chkR (M.getD 0 []).length M[j] = 0) ∧ Ext w wr) (fun idx _ => M.length - (intOf idx).toNat)
  case atStart => exact ⟨0, by omega, by go_num, Lib.hid (fun j _ h => by omega), Ext.refl _⟩
  case round =>
    obtain ⟨i, hi, rfl, Hz, hE⟩ := hrel
    generalize wr = X at *
    by_cases hlt : i < M.length
    · have hii : (i : Int) < (M.length : Int) := by omega
      have hi0 : 0 < M.length := by omega
      have hi0i : (0 : Int) < (M.length : Int) := by omega
      obtain rfl := HS.out.addr (by rw [HV.out]; omega)
      obtain ⟨sr, br, or, cr, hrow, hrc, hSr⟩ := MatR.row HS.out HV.out HR.out hlt
      obtain ⟨s0, b0, o0, c0, hrow0, hrc0, hS0⟩ := MatR.row HS.out HV.out HR.out hi0
      have hrow' := hE.cell hrow
      have hrow0' := hE.cell hrow0
      rw [Nat.add_zero] at hrow0'
      obtain ⟨c, hc⟩ : ∃ c, c = (M.getD 0 []).length := ⟨_, rfl⟩
      have hc0 : M[0].length = c := by rw [hc, getD_get hi0]
      rw [hc0] at hrow0'
      obtain ⟨n, hn⟩ : ∃ n, n = M[i].length := ⟨_, rfl⟩
      rw [← hn] at hrow'
      have HC := Lib.hid hc
      have Hn := Lib.hid hn
      have hat : chkR c M[i] ≠ 0 → chk (M.getD 0 []).length M = chkR c M[i] := fun h => by
        rw [hc]
        exact chk_at _ M i hlt (fun j hj => Hz.out j (by omega) hj) (by rw [← hc]; exact h)
      have Hat := Lib.hid hat
      have HSr := Lib.hid (hSr.ext hE)
      clear hrow hrow0 hrc0 hS0 hc hc0 hn hat hSr
      by_cases h12 : 12 < n
      · have h12i : (12 : Int) < (n : Int) := by omega
        have hch : chkR c M[i] = 4 := by unfold chkR; rw [← Hn.out, if_pos h12]
        have Hch := Lib.hid hch
        clear hch
        go_wp2_with fail
        go_ret
        exact ⟨by rw [HE0.out, Hat.out (by rw [Hch.out]; decide), Hch.out]; rfl, hE⟩
      · have h12i : (n : Int) ≤ 12 := by omega
        have h12d : decide ((12 : Int) < (n : Int)) = false := decide_eq_false (by omega)
        by_cases hnc : n = c
        · subst hnc
          clear h12
          go_wp2_with fail
          go_quiet (fail)
          have hE2 := hE.drewN 1
          go_wp2_with fail
          go_loopw [4] (fun idx wr => ∃ k : Nat, k ≤ n ∧ idx = .int .i64 k ∧ Hid (∀ j, j < k → grt (M[i].getD j 0) = false) ∧ Ext X wr) (fun idx _ => n - (intOf idx).toNat)
          case atStart => exact ⟨0, by omega, by go_num, Lib.hid (fun j h => by omega), (Ext.refl _).drewN _⟩
          case round =>
            obtain ⟨k, hk, rfl, Hg, hEk⟩ := hrel
            generalize wr = Y at *
            by_cases hkn : k < n
            · have hki : (k : Int) < (n : Int) := by omega
              have hkM : k < M[i].length := by rw [← Hn.out]; exact hkn
              have c1 := (HSr.out.ext hEk).cell k (.int .i64 (M[i][k])) (is_get hkM)
              obtain rfl := HSr.out.addr (by rw [is_length, ← Hn.out]; omega)
              have hrowY := hEk.cell hrow'
              obtain ⟨z, hz⟩ : ∃ z, z = M[i][k] := ⟨_, rfl⟩
              rw [← hz] at c1
              have Hz2 := Lib.hid (show M[i].getD k 0 = z by rw [hz, getD_get hkM])
              have hno : grt z = true → chkR n M[i] = 4 := fun h => by
                have : M[i].any grt = true := List.any_eq_true.2 ⟨M[i][k], List.getElem_mem hkM, by rw [← hz]; exact h⟩
                unfold chkR; rw [← Hn.out, if_neg (by omega), if_neg (by omega), this]; rfl
              have Hno := Lib.hid hno
              clear hz hno
              by_cases g1 : 1000000000 < z
              · have hch := Hno.out (by unfold grt; exact decide_eq_true (.inl g1))
                have Hch := Lib.hid hch
                clear hch
                go_wp2_with fail
                go_ret
                exact ⟨by rw [HE0.out, Hat.out (by rw [Hch.out]; decide), Hch.out]; rfl, hE.trans hEk⟩
              · have g1d : decide (1000000000 < z) = false := decide_eq_false g1
                by_cases g2 : z < -1000000000
                · have hch := Hno.out (by unfold grt; exact decide_eq_true (.inr g2))
                  have Hch := Lib.hid hch
                  clear hch
                  go_wp2_with fail
                  go_ret
                  exact ⟨by rw [HE0.out, Hat.out (by rw [Hch.out]; decide), Hch.out]; rfl, hE.trans hEk⟩
                · have g2d : decide (z < -1000000000) = false := decide_eq_false g2
                  have Hgz := Lib.hid (show grt z = false by unfold grt; exact decide_eq_false (by omega))
                  clear g1 g2
                  go_wp2_with fail
                  go_roundw
                  case rel => exact ⟨k + 1, by omega, by go_num, Lib.hid (fun j hj => by
                    by_cases e : j = k
                    · subst e; rw [Hz2.out]; exact Hgz.out
                    · exact Hg.out j (by omega)), hEk⟩
                  case measure => simp [intOf] <;> omega
            · have hrowY := hEk.cell hrow'
              have Hok := Lib.hid (show chkR n M[i] = 0 by
                have hany : M[i].any grt = false := by
                  cases h : M[i].any grt
                  · rfl
                  · obtain ⟨z, hz, hg⟩ := List.any_eq_true.1 h
                    obtain ⟨j, hj, rfl⟩ := List.getElem_of_mem hz
                    have := Hg.out j (by have := Hn.out; omega)
                    rw [getD_get hj] at this
                    rw [this] at hg; cases hg
                unfold chkR; rw [← Hn.out, if_neg (by omega), if_neg (by omega), hany]; rfl)
              go_wp2_with fail
              go_roundw
              case rel => exact ⟨i + 1, by omega, by go_num, Lib.hid (fun j h hj => by
                by_cases e : j = i
                · subst e; rw [← HC.out]; exact Hok.out
                · exact Hz.out j h (by omega)), hE.trans hEk⟩
              case measure => simp [intOf] <;> omega
        · have hch : chkR c M[i] = 5 := by unfold chkR; rw [← Hn.out, if_neg h12, if_pos hnc]
          have Hch := Lib.hid hch
          have hnb : ((n : Int) == (c : Int)) = false := beq_eq_false_iff_ne.2 (by omega)
          have hnb2 : ((n : Int) != (c : Int)) = true := by simp [bne, hnb]
          have hnc' : ¬ (n : Int) = (c : Int) := by omega
          clear hch hnc h12
          go_wp2_with fail
          go_quiet (fail)
          go_wp2_with fail
          go_ret
          exact ⟨by rw [HE0.out, Hat.out (by rw [Hch.out]; decide), Hch.out]; rfl, hE.drewN _⟩
    · have Hch := Lib.hid (chk_all (M.getD 0 []).length M (fun j h => Hz.out j h (by omega)))
      go_wp2_with fail
      go_ret
      exact ⟨by rw [HE0.out, Hch.out]; rfl, hE⟩
end Go.Proofs.YthmhmkkcjlgbjaaGreatDoor
/- schismalaw07: few, none -/
namespace Go.Proofs.YthmhmkkcjlgbjaaGreatDoor
open Go.RowKit Go.Sort
/-- few, but for the number of rows. -/
def fewRow (n : Nat) (r : List Int) : Bool := !(decide (5 < r.length) && (decide (1 < n) || decide (14 < r.length)))
def fewN (n : Nat) : Bool := decide (n ≤ 5) || (decide (12 ≤ n) && decide (n ≤ 14))
def fewM (M : Mx) : Bool := fewN M.length && M.all (fewRow M.length)
set_option maxRecDepth 100000 in
set_option maxHeartbeats 1000000 in
theorem few_any {w : World} {v : Value} {M : Mx} (hM : MatR w v M) :
    Calls Tryz.prog 19 #[v] w fun e w' => e = .returned (.bool (fewM M)) ∧ Ext w w' := by
  obtain ⟨sa, gb, go, cap, vs, rfl, hcap, hvl, hS, hr⟩ := hM
  have HS := Lib.hid hS
  have HV := Lib.hid hvl
  have HR := Lib.hid hr
  clear hS hvl hr
  obtain ⟨n, hn⟩ : ∃ n, n = M.length := ⟨_, rfl⟩
  rw [← hn]
  have Hn := Lib.hid hn
  clear hn hcap
  by_cases h1 : fewN n = true
  · have Hall : Hid (fewM M = M.all (fewRow n)) := Lib.hid (by unfold fewM; rw [← Hn.out, h1]; rfl)
    have H1 := Lib.hid h1
    have hA : (n : Int) ≤ 5 ∨ ((5 : Int) < n ∧ (12 : Int) ≤ n ∧ (n : Int) ≤ 14) := by
      unfold fewN at h1
      by_cases h5 : n ≤ 5
      · exact .inl (by omega)
      · rw [decide_eq_false h5, Bool.false_or, Bool.and_eq_true] at h1
        have ha := of_decide_eq_true h1.1
        have hb := of_decide_eq_true h1.2
        exact .inr ⟨by omega, by omega, by omega⟩
    have hnb : n ≤ 1000000 := by omega
    clear h1
    go_enter Tryz.func19, Tryz.ntmps19
    rcases hA with h | ⟨h5, h12, h14⟩
    focus
      have hd : decide ((5 : Int) < (n : Int)) = false := decide_eq_false (by omega)
      go_wp2_with fail
    rotate_left
    focus
      have hd : decide ((n : Int) < 12) = false := decide_eq_false (by omega)
      have hd2 : decide ((14 : Int) < (n : Int)) = false := decide_eq_false (by omega)
      go_wp2_with fail
    all_goals
      go_loopw [3] (fun idx wr => ∃ i : Nat, i ≤ n ∧ idx = .int .i64 i ∧ Hid (∀ j, (h : j < M.length) → j < i → fewRow n M[j] = true) ∧ Ext w wr) (fun idx _ => n - (intOf idx).toNat)
      case atStart => exact ⟨0, by omega, by go_num, Lib.hid (fun j _ h => by omega), Ext.refl _⟩
      case round =>
        obtain ⟨i, hi, rfl, Hz, hE⟩ := hrel
        generalize wr = X at *
        by_cases hlt : i < n
        · have hii : (i : Int) < (n : Int) := by omega
          have hiM : i < M.length := by rw [← Hn.out]; exact hlt
          obtain rfl := HS.out.addr (by rw [HV.out]; omega)
          obtain ⟨sr, br, or, cr, hrow, hrc, hSr⟩ := MatR.row HS.out HV.out HR.out hiM
          have hrow' := hE.cell hrow
          obtain ⟨l, hl⟩ : ∃ l, l = M[i].length := ⟨_, rfl⟩
          rw [← hl] at hrow'
          have Hl := Lib.hid hl
          clear hrow hrc hSr hl
          cases hf : fewRow n M[i]
          · have Hno := Lib.hid (show fewM M = false by
              rw [Hall.out]
              cases h : M.all (fewRow n)
              · rfl
              · have := List.all_eq_true.1 h _ (List.getElem_mem hiM); rw [hf] at this; cases this)
            unfold fewRow at hf
            rw [← Hl.out, Bool.not_eq_false', Bool.and_eq_true] at hf
            have h5 : (5 : Int) < (l : Int) := by have := of_decide_eq_true hf.1; omega
            by_cases hn1 : 1 < n
            · have hn1i : (1 : Int) < (n : Int) := by omega
              clear hf
              go_wp2_with fail
              go_ret
              exact ⟨by rw [Hno.out]; rfl, hE⟩
            · have hn1i : (n : Int) ≤ 1 := by omega
              have hn1d : decide ((1 : Int) < (n : Int)) = false := decide_eq_false (by omega)
              have h14 : (14 : Int) < (l : Int) := by
                rcases (by simpa only [Bool.or_eq_true] using hf.2 : decide (1 < n) = true ∨ decide (14 < l) = true) with h | h
                · exact absurd (of_decide_eq_true h) hn1
                · have := of_decide_eq_true h; omega
              clear hf
              go_wp2_with fail
              go_ret
              exact ⟨by rw [Hno.out]; rfl, hE⟩
          · have Hst := Lib.hid (show ∀ j, (h : j < M.length) → j < i + 1 → fewRow n M[j] = true from fun j h hj => by
              by_cases e : j = i
              · subst e; exact hf
              · exact Hz.out j h (by omega))
            unfold fewRow at hf
            rw [← Hl.out, Bool.not_eq_true'] at hf
            by_cases h5 : 5 < l
            · have h5i : (5 : Int) < (l : Int) := by omega
              rw [decide_eq_true h5, Bool.true_and, Bool.or_eq_false_iff] at hf
              have hn1 : ¬ 1 < n := of_decide_eq_false hf.1
              have h14 : ¬ 14 < l := of_decide_eq_false hf.2
              have hn1i : (n : Int) ≤ 1 := by omega
              have hn1d : decide ((1 : Int) < (n : Int)) = false := decide_eq_false (by omega)
              have h14d : decide ((14 : Int) < (l : Int)) = false := decide_eq_false (by omega)
              clear hf hn1 h14 h5
              go_wp2_with fail
              go_roundw
              case rel => exact ⟨i + 1, by omega, by go_num, Hst, hE⟩
              case measure => simp [intOf] <;> omega
            · have h5i : (l : Int) ≤ 5 := by omega
              have h5d : decide ((5 : Int) < (l : Int)) = false := decide_eq_false (by omega)
              clear hf h5
              go_wp2_with fail
              go_roundw
              case rel => exact ⟨i + 1, by omega, by go_num, Hst, hE⟩
              case measure => simp [intOf] <;> omega
        · have Hyes := Lib.hid (show fewM M = true by
            rw [Hall.out]
            refine List.all_eq_true.2 fun r hr => ?_
            obtain ⟨j, hj, rfl⟩ := List.getElem_of_mem hr
            exact Hz.out j hj (by have := Hn.out; omega))
          go_wp2_with fail
          go_ret
          exact ⟨by rw [Hyes.out]; rfl, hE⟩
  · have Hno := Lib.hid (show fewM M = false by unfold fewM; rw [← Hn.out, Bool.eq_false_iff.2 h1]; rfl)
    have hA : ((5 : Int) < n ∧ (n : Int) < 12) ∨ ((5 : Int) < n ∧ (12 : Int) ≤ n ∧ (14 : Int) < n) := by
      have h2 := Bool.eq_false_iff.2 h1
      unfold fewN at h2
      rw [Bool.or_eq_false_iff, Bool.and_eq_false_iff] at h2
      have h5 : ¬ n ≤ 5 := of_decide_eq_false h2.1
      rcases h2.2 with h | h
      · have := of_decide_eq_false h; exact .inl ⟨by omega, by omega⟩
      · have := of_decide_eq_false h; exact .inr ⟨by omega, by omega, by omega⟩
    rw [Hno.out]
    clear h1
    go_enter Tryz.func19, Tryz.ntmps19
    rcases hA with ⟨h5, h12⟩ | ⟨h5, h12, h14⟩
    · go_wp2_with fail
      go_ret
      exact ⟨rfl, Ext.refl _⟩
    · have hd : decide ((n : Int) < 12) = false := decide_eq_false (by omega)
      go_wp2_with fail
      go_ret
      exact ⟨rfl, Ext.refl _⟩
/-- none without rows: whether the matrix is empty. -/
theorem none_nil {sa : Option Addr} {n cp : Nat} (w : World) : Calls Tryz.prog 24 #[.slice sa n cp, .slice none 0 0] w fun e w' => e = .returned (.bool (decide (n = 0))) ∧ Ext w w' := by
  by_cases h : n = 0
  · subst h
    go_enter Tryz.func24, Tryz.ntmps24
    go_wp2_with fail
    go_loop [5] (fun idx => idx = .int .i64 0) (fun _ => 0)
    case atStart => rfl
    case round =>
      obtain rfl := hrel
      go_wp2_with fail
      go_ret
      exact ⟨rfl, Ext.refl _⟩
  · rw [decide_eq_false h]
    have h0 : ((n : Int) == 0) = false := beq_eq_false_iff_ne.2 (by omega)
    go_enter Tryz.func24, Tryz.ntmps24
    go_wp2_with fail
    go_loop [5] (fun idx => idx = .int .i64 0) (fun _ => 0)
    case atStart => rfl
    case round =>
      obtain rfl := hrel
      go_wp2_with fail
      go_ret
      exact ⟨rfl, Ext.refl _⟩
end Go.Proofs.YthmhmkkcjlgbjaaGreatDoor
/- schismalaw07: HermiteChecks, the walk -/
namespace Go.Proofs.YthmhmkkcjlgbjaaGreatDoor
open Go.RowKit Go.Sort
set_option maxRecDepth 100000 in
set_option maxHeartbeats 2000000 in
theorem checks_walk {w : World} {v : Value} {M : Mx} (hM : MatR w v M) (hL : Laid w) :
    Calls Tryz.prog 5 #[v] w fun e w' => e = .returned (.bool true) ∧ Ext w w' := by
  have HM := Lib.hid hM
  have HL := Lib.hid hL
  have hkn := Lib.hid (fun W (hW : Ext w W) => known_any (hL.ext hW))
  have hfw := Lib.hid (fun W (hW : Ext w W) => few_any (hM.ext hW))
  clear hM hL
  cases hf : fewM M
  · rw [hf] at hfw
    clear hf HM HL
    go_enter Tryz.func5, Tryz.ntmps5
    go_wp2_with fail
    refine (hkn.out _ (Ext.refl _)).mono ?_
    rintro e w1 ⟨rfl, hE1⟩
    go_wp2_with fail
    refine (hfw.out _ hE1).mono ?_
    rintro e w2 ⟨rfl, hE2⟩
    have hE12 := hE1.trans hE2
    go_wp2_with fail
    refine (hkn.out _ hE12).mono ?_
    rintro e w3 ⟨rfl, hE3⟩
    go_wp2_with fail
    go_ret
    exact ⟨rfl, hE12.trans hE3⟩
  · rw [hf] at hfw
    clear hf
    have hck := Lib.hid (fun W (hW : Ext w W) => Check07_any (HM.out.ext hW))
    have hif := Lib.hid (fun W (hW : Ext w W) => IsForm_any (HM.out.ext hW))
    have hpi := Lib.hid (fun W (hW : Ext w W) => Pivots_any (HM.out.ext hW))
    obtain ⟨c, hc⟩ : ∃ c, c = checkM M := ⟨_, rfl⟩
    rw [← hc] at hck hif
    by_cases h0 : c = 0
    · subst h0
      obtain ⟨hm12, hn12, hrect, _⟩ := checkM_ok hc.symm
      have hbr : ∀ r ∈ M, r.length ≤ 1000000 := fun r hr => by rw [hrect r hr]; omega
      have hrf := Lib.hid (fun W (hW : Ext w W) => IsForm07_any (HM.out.ext hW) hrect (by omega) (by omega))
      have hrp := Lib.hid (fun W (hW : Ext w W) => Pivots07_any (HM.out.ext hW) (by omega) hbr)
      have hE0 : isFE M = isF M := by unfold isFE; rw [if_pos hc.symm]
      rw [hE0] at hif
      cases hq : isF M
      · have hP7 := Lib.hid (show pivE M = 7 by unfold pivE; rw [if_pos hc.symm, hq]; rfl)
        rw [hq] at hif hrf
        clear hc hq hbr hrect hE0
        go_enter Tryz.func5, Tryz.ntmps5
        go_wp2_with fail
        refine (hkn.out _ (Ext.refl _)).mono ?_
        rintro e w1 ⟨rfl, hE1⟩
        go_wp2_with fail
        refine (hfw.out _ hE1).mono ?_
        rintro e w2 ⟨rfl, hE2⟩
        have hE12 := hE1.trans hE2
        clear hkn hfw
        go_wp2_with fail
        refine (hck.out _ hE12).mono ?_
        rintro e w3 ⟨rfl, hE3⟩
        have hE13 := hE12.trans hE3
        clear hck
        go_wp2_with fail
        refine (hif.out _ hE13).mono ?_
        rintro e w4 ⟨rfl, hE4⟩
        have hE14 := hE13.trans hE4
        clear hif
        go_wp2_with fail
        refine (hpi.out _ hE14).mono ?_
        rintro e w5 ⟨hP, hE5⟩
        rw [hP7.out, if_neg (by decide)] at hP
        subst hP
        have hE15 := hE14.trans hE5
        clear hpi
        go_wp2_with fail
        refine (hrf.out _ hE15).mono ?_
        rintro e w6 ⟨rfl, hE6⟩
        go_wp2_with fail
        go_ret
        exact ⟨rfl, hE15.trans hE6⟩
      · have hP0 := Lib.hid (show pivE M = 0 by unfold pivE; rw [if_pos hc.symm, hq]; rfl)
        rw [hq] at hif hrf
        have hml : (M.map pvI).length ≤ 1000000 := by simp; omega
        have Hml := Lib.hid hml
        clear hc hq hbr hrect hE0 hml
        go_enter Tryz.func5, Tryz.ntmps5
        go_wp2_with fail
        refine (hkn.out _ (Ext.refl _)).mono ?_
        rintro e w1 ⟨rfl, hE1⟩
        go_wp2_with fail
        refine (hfw.out _ hE1).mono ?_
        rintro e w2 ⟨rfl, hE2⟩
        have hE12 := hE1.trans hE2
        clear hkn hfw
        go_wp2_with fail
        refine (hck.out _ hE12).mono ?_
        rintro e w3 ⟨rfl, hE3⟩
        have hE13 := hE12.trans hE3
        clear hck
        go_wp2_with fail
        refine (hif.out _ hE13).mono ?_
        rintro e w4 ⟨rfl, hE4⟩
        have hE14 := hE13.trans hE4
        clear hif
        go_wp2_with fail
        refine (hpi.out _ hE14).mono ?_
        rintro e w5 ⟨hP, hE5⟩
        rw [hP0.out, if_pos rfl] at hP
        obtain ⟨p, rfl, hp⟩ := hP
        have Hp := Lib.hid hp.row
        have hE15 := hE14.trans hE5
        clear hpi hp
        go_wp2_with fail
        refine (hrf.out _ hE15).mono ?_
        rintro e w6 ⟨rfl, hE6⟩
        have hE16 := hE15.trans hE6
        go_wp2_with fail
        refine (hrp.out _ hE16).mono ?_
        rintro e w7 ⟨q, rfl, hq, hE7⟩
        have Hq := Lib.hid hq.row
        clear hq
        go_wp2_with fail
        refine (eqr_same (Hp.out.ext (hE6.trans hE7)) Hq.out Hml.out).mono ?_
        rintro e w8 ⟨rfl, hE8⟩
        go_wp2_with fail
        go_ret
        exact ⟨rfl, (hE16.trans hE7).trans hE8⟩
    · have hcb : (c == 0) = false := beq_eq_false_iff_ne.2 h0
      have hcb2 : (c != 0) = true := by simp [bne, hcb]
      have hE0 : isFE M = false := by unfold isFE; rw [if_neg (by omega)]
      rw [hE0] at hif
      have hPc := Lib.hid (show pivE M = c by unfold pivE; rw [if_neg (by omega), hc])
      have H0 := Lib.hid h0
      have hfe := Lib.hid (fun W (hW : Ext w W) => Form_err (HM.out.ext hW) hc.symm h0)
      have htr := Lib.hid (fun W (hW : Ext w W) => Transform_err (HM.out.ext hW) hc.symm h0)
      have hun := Lib.hid (fun W (hW : Ext w W) => Unimodular_err (HM.out.ext hW) hc.symm h0)
      have hnn := Lib.hid (fun W => none_nil (sa := none) (n := 0) (cp := 0) W)
      clear hc hE0
      go_enter Tryz.func5, Tryz.ntmps5
      go_wp2_with fail
      refine (hkn.out _ (Ext.refl _)).mono ?_
      rintro e w1 ⟨rfl, hE1⟩
      go_wp2_with fail
      refine (hfw.out _ hE1).mono ?_
      rintro e w2 ⟨rfl, hE2⟩
      have hE12 := hE1.trans hE2
      clear hkn hfw
      go_wp2_with fail
      refine (hck.out _ hE12).mono ?_
      rintro e w3 ⟨rfl, hE3⟩
      have hE13 := hE12.trans hE3
      clear hck
      go_wp2_with fail
      refine (hif.out _ hE13).mono ?_
      rintro e w4 ⟨rfl, hE4⟩
      have hE14 := hE13.trans hE4
      clear hif
      go_wp2_with fail
      refine (hpi.out _ hE14).mono ?_
      rintro e w5 ⟨hP, hE5⟩
      rw [hPc.out, if_neg H0.out] at hP
      subst hP
      have hE15 := hE14.trans hE5
      clear hpi
      go_wp2_with fail
      refine (hfe.out _ hE15).mono ?_
      rintro e w6 ⟨rfl, hE6⟩
      have hE16 := hE15.trans hE6
      go_wp2_with fail
      refine (htr.out _ hE16).mono ?_
      rintro e w7 ⟨rfl, hE7⟩
      have hE17 := hE16.trans hE7
      go_wp2_with fail
      refine (hun.out _ hE17).mono ?_
      rintro e w8 ⟨rfl, hE8⟩
      have hE18 := hE17.trans hE8
      go_wp2_with fail
      refine (hnn.out _).mono ?_
      rintro e w9 ⟨rfl, hE9⟩
      have hE19 := hE18.trans hE9
      go_wp2_with fail
      refine (hnn.out _).mono ?_
      rintro e w10 ⟨rfl, hE10⟩
      go_wp2_with fail
      go_ret
      exact ⟨rfl, hE19.trans hE10⟩
end Go.Proofs.YthmhmkkcjlgbjaaGreatDoor
/- schismalaw07.HermiteChecks: for every matrix the law returns true, and the matrix reads as it did. No condition but what the card itself prints. -/
namespace Go.Proofs.YthmhmkkcjlgbjaaGreatDoor
open Go.ChangeShapes Go.WideShapes Go.ChangeAt Go.WideMaps Go.WideElems Go.RowKit Go.Deep
set_option maxRecDepth 100000 in
set_option maxHeartbeats 2000000 in
theorem checks_lifted (os : Os) (started : os.Started) (H : Type) (enc : TypeId × Value → H) :
    ReturnsInHanded {} Tryz.checked os 5 .any (fun w args => (Rows.hermiteChecksSpec.pre enc Tryz.prog Tryz.f5 [] false w args ∧ laidMetH Tryz.prog fr_list w) ∧ sizedMet enc Tryz.prog Tryz.f5 (OpenSpec.ofChange Rows.hermiteChecksSpec) false w args)
      (Rows.hermiteChecksSpec.post enc Tryz.prog Tryz.f5 false true false false) := by
  refine returnsInHanded_of_change_and (C := Tryz.checked) (X := fun w _ => laidMetH Tryz.prog fr_list w) (fun _ _ _ hh h => h.of_heap hh) fr_own started (by kernel_rfl) Tryz.func5
    (ChangeSpec.witness_shaped (enc := enc) (C := Tryz.checked) (os := os) (X := fun w _ => laidMetH Tryz.prog fr_list w) false (World.doorLaid Tryz.prog 400 os) #[.slice none 0 0] 8 rfl (World.shaped_of_RefB (by kernel_rfl) (by kernel_rfl)) (by kernel_rfl) (by kernel_rfl) (by kernel_rfl) (door_met os _)) ?_
  intro W base args ds gs before hval0 hW _ _ hL _
  have hval : ∀ (j : Nat) t v, Tryz.f5.params[j]? = some t → args[j]? = some v → Value.okWide Tryz.prog W .any base t v := hval0
  have hW' := hW
  obtain ⟨p, q, hA0, hV, rfl, hfz, hnd⟩ := hW
  have hA : DataW.TrodAll enc Tryz.prog W 0 (fun _ => true) true Tryz.f5.params.toList args.toList ds p := hA0
  rw [Tryz.params5] at hA hval
  obtain ⟨v0, d0, rfl, rfl, h0⟩ := trodAll_one hA
  obtain ⟨rfl, rfl⟩ := trodVars_none hV
  obtain ⟨a0, len, cap, rfl⟩ := okWide_slice Tryz.underlying29 (hval 0 29 v0 rfl rfl)
  have h0k := h0
  obtain ⟨fuel0, hf⟩ := h0
  obtain ⟨M, hM⟩ := mat_open (by simp [Value.cells]) hf
  clear hA0 hval0
  simp only [List.append_nil] at hW'
  have hlt : ∀ x ∈ p, x.block < W.heap.size := fun x hx => by simpa using hW'.lt x hx
  refine (checks_walk hM (laid_of hL)).mono ?_
  rintro e W' ⟨rfl, hE⟩
  have e1 : Rows.hermiteChecksSpec.fn H ([d0] ++ []) = { results := [.lit (.bool true)], args := [d0] } := rfl
  refine ⟨_, rfl, _, _, _, [], p, [], hW', ?_, ?_, ?_, hE.frame _, fun h => by cases h⟩
  · rw [e1]; exact trodAll_mk1 (shut_bool Tryz.underlying4 true)
  · rw [e1]; exact trodAll_mk1 (Below.trod fr_laidOut (by kernel_rfl) (of_decide_eq_true (by kernel_rfl)) h0k hE hlt)
  · rw [e1]; rfl
theorem checks_holds : Rows.HermiteChecksSaid :=
  OpenClaim.holds_of_wide 5 Tryz.f5 rfl rfl rfl rfl rfl rfl rfl ⟨rfl, rfl, rfl, rfl, rfl⟩ rfl rfl rfl rfl rfl (by kernel_rfl) Tryz.func5 (by kernel_rfl)
    (of_decide_eq_true (by kernel_rfl)) (by unfold Func.isWrapper; first | (rw [if_pos (by decide +kernel)]; kernel_rfl) | (rw [if_neg (by decide +kernel)]; exact ⟨rfl, rfl⟩))
    (fun os started H enc _ => checks_lifted os started H enc)
theorem hermiteChecks_card : Rows.HermiteChecksCardSaid :=
  Claim7.holds_tied_plain_at .later [] [.data, .data, .data, .sentinel, .sentinel] true Rows.hermiteChecksCard.stood.harness true
    checks_holds (fun _ h => by cases h) (by kernel_rfl) (fun _ h => by cases h) hermiteChecks_row_tie rfl ⟨rfl, rfl⟩ (by kernel_rfl) rfl
    (fun f fn hf hfn => by
      obtain rfl : f = 5 := Option.some.inj ((show Tryz.prog.funcNamed "schisma/schismalaw07.HermiteChecks" = some 5 by kernel_rfl).symm.trans hf) |>.symm
      obtain rfl : fn = Tryz.f5 := (Option.some.inj (Tryz.func5.symm.trans hfn)).symm
      exact ⟨by kernel_rfl, fun j t ht => by
        rw [Tryz.params5] at ht
        have hm : t ∈ [29] := by simpa using Array.mem_of_getElem? ht
        have hall : ([29].all fun u => !Tryz.prog.wantsStandIn u) = true := by kernel_rfl
        exact (show Tryz.prog.wantsStandIn t = false by simpa using List.all_eq_true.1 hall t hm)⟩)
    (by kernel_rfl)
#print axioms hermiteChecks_card
end Go.Proofs.YthmhmkkcjlgbjaaGreatDoor
