/- Part 31 of the proof of the claim: contracts of the functions that it reaches, and plain laws; no condition. -/
import Derived.Test.YthmhmkkcjlgbjaaGreatDoorV30
import Derived.Test.YthmhmkkcjlgbjaaGreatDoorV25
import Derived.Test.YthmhmkkcjlgbjaaGreatDoorV22
import Derived.Test.YthmhmkkcjlgbjaaGreatDoorV23
import Derived.Test.YthmhmkkcjlgbjaaGreatDoorV27
import Derived.Test.YthmhmkkcjlgbjaaGreatDoorV29
/- hermite: Verify -/
namespace Go.Proofs.YthmhmkkcjlgbjaaGreatDoor
open Go.RowKit Go.Sort
/-- The row that the product with row i of the transform must be. -/
def wantR (M F : Mx) (i : Nat) : List Int := if i < F.length then F.getD i [] else List.replicate (ncols M) 0
def rowOK (M F T : Mx) (i : Nat) : Prop := prodR (T.getD i []) M (ncols M) = wantR M F i
/-- A transform's matrix is unimodular. -/
def uniP (T : Mx) : Prop := ∃ G, HnfOf (ncols T) T G ∧ G.length = T.length ∧ ∀ i, i < T.length → eM G i i = 1
theorem uniP_iff {T : Mx} {b : Bool} (h : ∃ G, HnfOf (ncols T) T G ∧ (b = true ↔ (G.length = T.length ∧ ∀ i, i < T.length → eM G i i = 1))) : b = true ↔ uniP T := by
  obtain ⟨G, hG, hb⟩ := h
  rw [hb]
  refine ⟨fun h => ⟨G, hG, h⟩, fun ⟨G2, hG2, h2⟩ => ?_⟩
  obtain rfl : G = G2 := hG.unique hG2 (fun v hv => .mem hv) (fun v hv => .mem hv)
  exact h2
def goodV (M F T F0 : Mx) : Prop := smallM F0 = true ∧ F0 = F ∧ uniP T ∧ ∀ i, i < T.length → rowOK M F T i
/-- What Verify returns. -/
def verS (M F T : Mx) (v : Int) : Prop :=
  if checkM M ≠ 0 then v = checkM M else if checkM F ≠ 0 then v = checkM F else if checkM T ≠ 0 then v = checkM T else
  if T.length ≠ M.length ∨ ncols T ≠ M.length then v = 5 else ∃ F0, HnfOf (ncols M) M F0 ∧ (v = 0 ∧ goodV M F T F0 ∨ v = 23 ∧ ¬ goodV M F T F0)
def VePost (w : World) (M F T : Mx) (e : Ending) (w' : World) : Prop := ∃ v, e = .returned (.int .i64 v) ∧ verS M F T v ∧ Ext w w'
theorem isH_le {n : Nat} {ps : List Nat} {F : Mx} (h : IsH n ps F) : F.length ≤ n := by
  have hge : ∀ i, i < F.length → i ≤ ps.getD i 0 := by
    intro i
    induction i with
    | zero => intro _; omega
    | succ i ih => intro hi; have := ih (by omega); have := h.inc i (i + 1) (by omega) (by omega); omega
  rcases Nat.eq_zero_or_pos F.length with h0 | h0
  · omega
  · have h1 := hge (F.length - 1) (by omega)
    have h2 := h.lt (F.length - 1) (by omega)
    omega
theorem wantR_small {M F : Mx} {i : Nat} (hF : ∀ r ∈ F, ∀ z ∈ r, -1000000000 ≤ z ∧ z ≤ 1000000000) : smallB (wantR M F i) = true := by
  refine smallB_iff.2 fun z hz => ?_
  unfold wantR at hz
  split at hz
  · rename_i h
    rw [getD_get h] at hz
    exact hF _ (List.getElem_mem h) z hz
  · rw [List.mem_replicate] at hz
    rw [hz.2]; omega
set_option maxRecDepth 100000 in
set_option maxHeartbeats 4000000 in
/-- The loop over the transform's rows; all else is right. -/
theorem verify_any {w : World} {vm vf vt : Value} {M F T : Mx} (hM : MatR w vm M) (hF : MatR w vf F) (hT : MatR w vt T) (hk1 : M.length ≤ 5) (hbM0 : checkM M = 0 → 13 * (bC M.length 30 (ncols M) + 2) < LIM) (hL : Laid w) :
    Calls Tryz.prog 42 #[vm, vf, vt] w (VePost w M F T) := by
  have HM := Lib.hid hM
  have HF := Lib.hid hF
  have HT := Lib.hid hT
  have HL := Lib.hid hL
  obtain ⟨sm, gm, om, cm, vsm, rfl, hcm, hvm, hSm, hrm⟩ := hM
  obtain ⟨sf, gf, of', cf, vsf, rfl, hcf, hvf, hSf, hrf⟩ := hF
  obtain ⟨st, gt, ot, ct, vst, rfl, hct, hvt, hSt, hrt⟩ := hT
  obtain ⟨m, hm⟩ : ∃ m, m = M.length := ⟨_, rfl⟩
  obtain ⟨fl, hfl⟩ : ∃ fl, fl = F.length := ⟨_, rfl⟩
  obtain ⟨tl, htl⟩ : ∃ tl, tl = T.length := ⟨_, rfl⟩
  have Hm := Lib.hid hm
  have Hfl := Lib.hid hfl
  have Htl := Lib.hid htl
  have HSf := Lib.hid hSf
  have Hvf := Lib.hid hvf
  have Hrf := Lib.hid hrf
  have HSt := Lib.hid hSt
  have Hvt := Lib.hid hvt
  have Hrt := Lib.hid hrt
  have hk1' := hk1
  rw [← hm] at hcm hk1 ⊢
  rw [← hfl] at hcf ⊢
  rw [← htl] at hct ⊢
  have hA := (Ext.refl w).alloc (.cells #[.slice sm m cm, .slice sf fl cf, .slice st tl ct] 29)
  have hcell := Lib.hid (show ∀ i, i < 3 → ∃ s n c, (w.alloc (.cells #[.slice sm m cm, .slice sf fl cf, .slice st tl ct] 29)).cell? ⟨w.heap.size, i, none⟩ = some (.slice s n c) ∧ MatR w (.slice s n c) ([M, F, T].getD i []) from fun i hi => by
    have : i = 0 ∨ i = 1 ∨ i = 2 := by omega
    rcases this with rfl | rfl | rfl
    · exact ⟨sm, m, cm, by go_simp, by rw [hm]; exact HM.out⟩
    · exact ⟨sf, fl, cf, by go_simp, by rw [hfl]; exact HF.out⟩
    · exact ⟨st, tl, ct, by go_simp, by rw [htl]; exact HT.out⟩)
  clear hvm hSm hrm hvf hSf hrf hvt hSt hrt hm hfl htl
  go_enter Tryz.func42, Tryz.ntmps42
  go_wp2_with fail
  generalize hV : w.alloc (.cells #[.slice sm m cm, .slice sf fl cf, .slice st tl ct] 29) = V at *
  clear hV
  go_loopw [24] (fun idx wr => ∃ i : Nat, i ≤ 3 ∧ idx = .int .i64 i ∧ Hid (∀ j, j < i → checkM ([M, F, T].getD j []) = 0) ∧ Ext V wr) (fun idx _ => 3 - (intOf idx).toNat)
  case atStart => exact ⟨0, by omega, by go_num, Lib.hid (fun j h => by omega), Ext.refl _⟩
  case round =>
    obtain ⟨i, hi, rfl, hC, hE⟩ := hrel
    generalize wr = X at *
    have hEX := hA.trans hE
    by_cases hlt : i < 3
    · have hii : (i : Int) < 3 := by omega
      obtain ⟨s, n, c, hcl, hmat⟩ := hcell.out i hlt
      have hck := Lib.hid (tableCheck_any (hmat.ext hEX))
      have hclX := hE.cell hcl
      obtain ⟨q, hq⟩ : ∃ q, q = checkM ([M, F, T].getD i []) := ⟨_, rfl⟩
      rw [← hq] at hck
      have Hq := Lib.hid hq
      clear hcl hq hmat
      by_cases hq0 : q = 0
      · subst hq0
        have hC2 := Lib.hid (show ∀ j, j < i + 1 → checkM ([M, F, T].getD j []) = 0 from fun j hj => by
          by_cases e : j = i
          · subst e; exact Hq.out.symm
          · exact hC.out j (by omega))
        go_wp2_with fail
        refine hck.out.mono ?_
        rintro e W ⟨rfl, hEW⟩
        have hE2 := hE.trans hEW
        clear hck
        go_wp2_with fail
        go_roundw
        case rel => exact ⟨i + 1, by omega, by go_num, hC2, hE2⟩
        case measure => simp [intOf] <;> omega
      · have hqb : (q == 0) = false := beq_eq_false_iff_ne.2 hq0
        have hqb2 : (q != 0) = true := by simp [bne, hqb]
        have hfin := fun W (hW : Ext w W) => Lib.hid (show VePost w M F T (.returned (.int .i64 q)) W from ⟨q, rfl, by
          have h3 : i = 0 ∨ i = 1 ∨ i = 2 := by omega
          have e := Hq.out
          unfold verS
          rcases h3 with rfl | rfl | rfl
          · rw [if_pos (by rw [e] at hq0; exact hq0)]; exact e
          · rw [if_neg (by have := hC.out 0 (by omega); simpa using this), if_pos (by rw [e] at hq0; exact hq0)]; exact e
          · rw [if_neg (by have := hC.out 0 (by omega); simpa using this), if_neg (by have := hC.out 1 (by omega); simpa using this), if_pos (by rw [e] at hq0; exact hq0)]; exact e, hW⟩)
        have Hfin := Lib.hid hfin
        clear hfin hq0
        go_wp2_with fail
        refine hck.out.mono ?_
        rintro e W ⟨rfl, hEW⟩
        have hE2 := hEX.trans hEW
        clear hck
        go_wp2_with fail
        go_ret
        exact (Hfin.out _ hE2).out
    · have hi3 : i = 3 := by omega
      have c1 : checkM M = 0 := by have := hC.out 0 (by omega); simpa using this
      have c2 : checkM F = 0 := by have := hC.out 1 (by omega); simpa using this
      have c3 : checkM T = 0 := by have := hC.out 2 (by omega); simpa using this
      have hVe : ∀ v W, Ext w W → (if T.length ≠ M.length ∨ ncols T ≠ M.length then v = 5 else ∃ F0, HnfOf (ncols M) M F0 ∧ (v = 0 ∧ goodV M F T F0 ∨ v = 23 ∧ ¬ goodV M F T F0)) → VePost w M F T (.returned (.int .i64 v)) W := fun v W hW h =>
        ⟨v, rfl, by unfold verS; rw [if_neg (by simpa using c1), if_neg (by simpa using c2), if_neg (by simpa using c3)]; exact h, hW⟩
      have HVe := Lib.hid hVe
      have hcol := Lib.hid (fun W (hW : Ext w W) => columns_any (HT.out.ext hW))
      obtain ⟨tc, htc⟩ : ∃ tc, tc = ncols T := ⟨_, rfl⟩
      have Htc := Lib.hid htc
      simp only [← Htl.out, ← htc] at hcol
      clear hVe htc
      by_cases hsz : tl ≠ m ∨ tc ≠ m
      · have hfin := fun W (hW : Ext w W) => Lib.hid (HVe.out 5 W hW (by rw [if_pos (by rw [← Htl.out, ← Hm.out, ← Htc.out]; exact hsz)]))
        have Hfin := Lib.hid hfin
        clear hfin c1 c2 c3
        by_cases hn1 : tl = m
        · have hn2 : tc ≠ m := by omega
          subst hn1
          have hb1 : ((tc : Int) == (tl : Int)) = false := beq_eq_false_iff_ne.2 (by omega)
          have hb2 : ((tc : Int) != (tl : Int)) = true := by simp [bne, hb1]
          have hcol1 := Lib.hid (hcol.out X hEX)
          clear hcol hsz
          go_wp2_with fail
          refine hcol1.out.mono ?_
          rintro e W ⟨rfl, hEW⟩
          have hE2 := hEX.trans hEW
          go_wp2_with fail
          go_ret
          exact (Hfin.out _ hE2).out
        · have hb1 : ((tl : Int) == (m : Int)) = false := beq_eq_false_iff_ne.2 (by omega)
          have hb2 : ((tl : Int) != (m : Int)) = true := by simp [bne, hb1]
          clear hcol hsz hn1
          go_wp2_with fail
          go_ret
          exact (Hfin.out _ hEX).out
      · have hs1 : tl = m := by omega
        have hs2 : tc = m := by omega
        subst hs1
        subst hs2
        have hVe2 : ∀ v W, Ext w W → (∃ F0, HnfOf (ncols M) M F0 ∧ (v = 0 ∧ goodV M F T F0 ∨ v = 23 ∧ ¬ goodV M F T F0)) → VePost w M F T (.returned (.int .i64 v)) W := fun v W hW h => HVe.out v W hW (by rw [if_neg (by rw [← Htl.out, ← Hm.out, ← Htc.out]; exact hsz)]; exact h)
        have HVe2 := Lib.hid hVe2
        have hcol1 := Lib.hid (hcol.out X hEX)
        have hbM := hbM0 c1
        have hk2 := (checkM_ok c1).2.1
        have hTn : ncols T = T.length := Htc.out.symm.trans Htl.out
        have hT5 : T.length ≤ 5 := by rw [← Htl.out, Hm.out]; exact hk1'
        have hbT := bC_lim (L := T.length) (c := ncols T) hT5 (by rw [hTn]; exact hT5)
        have hfo := Lib.hid (fun W (hW : Ext w W) => form_any (HM.out.ext hW) c1 (by omega) (HL.out.ext hW))
        have hun := Lib.hid (fun W (hW : Ext w W) => Unimodular_ok (HT.out.ext hW) c3 hbT (HL.out.ext hW))
        simp only [← Hm.out] at hfo
        simp only [← Htl.out] at hun
        have HTn := Lib.hid hTn
        obtain ⟨_, _, hrM, heM⟩ := checkM_ok c1
        obtain ⟨_, _, hrF, heF⟩ := checkM_ok c2
        obtain ⟨_, _, hrT, heT⟩ := checkM_ok c3
        have HrM := Lib.hid hrM
        have HeM := Lib.hid heM
        have HrT := Lib.hid hrT
        have HeT := Lib.hid heT
        have HeF := Lib.hid heF
        have Hk2 := Lib.hid hk2
        clear hcol hVe2 hsz HVe hbM hbT hTn hT5 hrM heM hrF heF hrT heT c1 c2 c3 hC hcell
        go_wp2_with fail
        refine hcol1.out.mono ?_
        rintro e w1 ⟨rfl, hE1⟩
        have hEw1 := hEX.trans hE1
        have hfo1 := Lib.hid (hfo.out w1 hEw1)
        clear hcol1 hfo
        go_wp2_with fail
        refine hfo1.out.mono ?_
        rintro e w2 ⟨F0, hF0, hP, hE2⟩
        have hEw2 := hEw1.trans hE2
        have HF0 := Lib.hid hF0
        have Hbad := Lib.hid (fun W (hW : Ext w W) (h : ¬ goodV M F T F0) => HVe2.out 23 W hW ⟨F0, HF0.out, .inr ⟨rfl, h⟩⟩)
        clear hfo1 hF0
        cases hs : smallM F0
        · rw [hs, if_neg (by decide)] at hP
          obtain rfl := hP
          have hfin := Lib.hid (Hbad.out w2 hEw2 (fun h => by rw [h.1] at hs; cases hs))
          clear hs
          go_wp2_with fail
          go_ret
          exact hfin.out
        · rw [hs, if_pos rfl] at hP
          obtain ⟨vF, rfl, hFO⟩ := hP
          have Hs := Lib.hid hs
          have HFM := Lib.hid hFO.mat
          obtain ⟨s0, _, _, c0, _, hv0, -⟩ := hFO.mat
          subst hv0
          obtain ⟨⟨ps, hI⟩, -⟩ := HF0.out
          have hl0 := isH_le hI
          have heq := Lib.hid (tblEqual_any HFM.out (HF.out.ext hEw2) (by have := Hk2.out; omega) (fun r hr => by rw [hI.rect r hr]; have := Hk2.out; omega))
          rw [← Hfl.out] at heq
          obtain ⟨l0, hl0'⟩ : ∃ l0, l0 = F0.length := ⟨_, rfl⟩
          rw [← hl0'] at heq ⊢
          obtain ⟨bq, hbq⟩ : ∃ bq, bq = decide (F0 = F) := ⟨_, rfl⟩
          rw [← hbq] at heq
          have Hbq := Lib.hid hbq
          clear hFO hs hI hl0 hl0' hbq
          go_wp2_with fail
          refine heq.out.mono ?_
          rintro e w3 ⟨rfl, hE3⟩
          have hEw3 := hEw2.trans hE3
          clear heq
          cases bq with
          | false =>
            have hfin := Lib.hid (Hbad.out w3 hEw3 (fun h => by have h2 := Hbq.out; rw [decide_eq_true h.2.1] at h2; cases h2))
            go_wp2_with fail
            go_ret
            exact hfin.out
          | true =>
            have hFF : F0 = F := of_decide_eq_true Hbq.out.symm
            subst hFF
            have hun1 := Lib.hid (hun.out w3 hEw3)
            clear hun
            go_wp2_with fail
            refine hun1.out.mono ?_
            rintro e w4 ⟨b, rfl, -, hb2, hE4⟩
            have hEw4 := hEw3.trans hE4
            have Hub := Lib.hid (uniP_iff (hb2 HTn.out))
            clear hun1 hb2
            cases b with
            | false =>
              have hfin := Lib.hid (Hbad.out w4 hEw4 (fun h => by have h2 := Hub.out.2 h.2.2.1; cases h2))
              go_wp2_with fail
              go_ret
              exact hfin.out
            | true =>
              have Huni := Lib.hid (Hub.out.1 rfl)
              clear Hub
              obtain ⟨i0, hi', hz0, hz1, hz2⟩ := info_parts Tryz.infoInt
              obtain ⟨n, hn⟩ : ∃ n, n = ncols M := ⟨_, rfl⟩
              have Hn := Lib.hid hn
              have hcM := Lib.hid (fun W (hW : Ext w W) => columns_any (HM.out.ext hW))
              simp only [← Hm.out, ← hn] at hcM
              have hn5 : n ≤ 12 := by rw [hn]; exact Hk2.out
              clear hn
              go_wp2_with fail
              go_loopw [72] (fun idx wr => ∃ i : Nat, i ≤ tc ∧ idx = .int .i64 i ∧ Hid (∀ j, j < i → rowOK M F0 T j) ∧ Ext w wr) (fun idx _ => tc - (intOf idx).toNat)
              case atStart => exact ⟨0, by omega, by go_num, Lib.hid (fun j h => by omega), hEw4⟩
              case round =>
                obtain ⟨i, hi, rfl, hR, hEZ⟩ := hrel
                generalize wr = Z at *
                by_cases hlti : i < tc
                · have hii : (i : Int) < (tc : Int) := by omega
                  have hiT : i < T.length := by rw [← Htl.out]; exact hlti
                  obtain rfl := HSt.out.addr (by rw [Hvt.out]; omega)
                  obtain ⟨sr, br, or, cr, hrow, hrc, hSr⟩ := MatR.row HSt.out Hvt.out Hrt.out hiT
                  obtain ⟨t, ht⟩ : ∃ t, t = T[i] := ⟨_, rfl⟩
                  have hmem : t ∈ T := by rw [ht]; exact List.getElem_mem hiT
                  have htl : t.length = tc := by rw [HrT.out t hmem, HTn.out, Htl.out]
                  rw [← ht] at hrow hrc hSr
                  rw [htl] at hrow
                  have hrow' := hEZ.cell hrow
                  have hRt := Lib.hid (show RowR w (.slice sr tc cr) t from ⟨sr, br, or, cr, by rw [htl], hrc, hSr⟩)
                  have Htl2 := Lib.hid htl
                  have Hte := Lib.hid (HeT.out t hmem)
                  have HtD := Lib.hid (show T.getD i [] = t by rw [getD_get hiT, ht])
                  have hcM1 := Lib.hid (hcM.out Z hEZ)
                  clear hrow hrc hSr htl ht hmem
                  go_wp2_with fail
                  refine hcM1.out.mono ?_
                  rintro e w5 ⟨rfl, hE5⟩
                  have hEw5 := hEZ.trans hE5
                  clear hcM1
                  have hpr := Lib.hid (fun W (hW : Ext w W) => hproduct_any (HM.out.ext hW) (hRt.out.ext hW) HrM.out (by rw [Htl2.out]; exact Hm.out) (by rw [← Hn.out]; omega) (by rw [← Hm.out]; omega) HeM.out Hte.out (HL.out.ext hW))
                  simp only [← Hm.out, ← Hn.out] at hpr
                  rcases Nat.lt_or_ge i fl with hif | hif
                  case' inl =>
                    have hifi : (i : Int) < (fl : Int) := by omega
                    have hiF : i < F0.length := by rw [← Hfl.out]; exact hif
                    obtain rfl := HSf.out.addr (by rw [Hvf.out]; omega)
                    obtain ⟨sw, bw, ow, cw, hrw, hrcw, hSw⟩ := MatR.row HSf.out Hvf.out Hrf.out hiF
                    have hwl : F0[i].length = n := by
                      obtain ⟨⟨ps, hI⟩, -⟩ := HF0.out
                      rw [Hn.out]; exact hI.rect _ (List.getElem_mem hiF)
                    have HW0 := Lib.hid (show RowR w (.slice sw n cw) (wantR M F0 i) from by
                      unfold wantR; rw [if_pos hiF, getD_get hiF, ← hwl]
                      exact ⟨sw, bw, ow, cw, rfl, hrcw, hSw⟩)
                    rw [hwl] at hrw
                    clear hrcw hSw hwl hiF
                    go_wp2_with (at_make; refine wpList_make_full _ rfl _ _ 35 rfl w5.heap.size 3 i0 (.int .i64 0) 1 Tryz.underlying35 hi' hz0 hz1 .i64 .i64 _ _ n rfl rfl (by omega) (by omega) (by rw [hz2]; omega) (by unfold maxLen; omega) (Nat.le_refl _) ?_; intro w8 hown8 hgrow8; have hE8 : Ext w5 w8 := ext_grown hgrow8; have hrw8 := (hEw5.trans hE8).cell hrw; clear hown8 hgrow8)
                    have hEw8 := hEw5.trans hE8
                    have HW := Lib.hid (HW0.out.ext hEw8)
                  case' inr =>
                    have hifi : ¬ (i : Int) < (fl : Int) := by omega
                    have hifd : decide ((i : Int) < (fl : Int)) = false := decide_eq_false hifi
                    go_wp2_with (at_make; refine wpList_make_full _ rfl _ _ 35 rfl w5.heap.size 3 i0 (.int .i64 0) 1 Tryz.underlying35 hi' hz0 hz1 .i64 .i64 _ _ n rfl rfl (by omega) (by omega) (by rw [hz2]; omega) (by unfold maxLen; omega) (Nat.le_refl _) ?_; intro w8 hown8 hgrow8; have hE8 : Ext w5 w8 := ext_grown hgrow8; have HR8 := Lib.hid (zero_row hown8); clear hown8 hgrow8)
                    have hEw8 := hEw5.trans hE8
                    have HW := Lib.hid (show RowR w8 (.slice (some ⟨w5.heap.size, 0, none⟩) n n) (wantR M F0 i) from by
                      unfold wantR; rw [if_neg (by rw [← Hfl.out]; omega), ← Hn.out]
                      exact HR8.out.row)
                  all_goals
                    refine (hpr.out _ hEw8).mono ?_
                    rintro e w9 ⟨g, cp, rfl, hO, hE9⟩
                    have hEw9 := hEw8.trans hE9
                    have hpl := prodR_length t M n
                    have hnd : ∀ z ∈ prodR t M n, nd z ≤ LIM := by
                      intro z hz
                      unfold prodR at hz
                      obtain ⟨j, _, rfl⟩ := List.mem_map.1 hz
                      have h30 : ∀ z : Int, -1000000000 ≤ z ∧ z ≤ 1000000000 → z.natAbs < 2 ^ 30 := fun z hz => by
                        have e : (2 : Nat) ^ 30 = 1073741824 := by decide
                        rw [e]; omega
                      have h := dotB_bd (a := t) (B := M) (c := j) (fun z hz => h30 z (Hte.out z hz)) (fun r hr z hz => h30 z (HeM.out r hr z hz)) M.length
                      have h2 : nd (dotB t M j M.length) ≤ 71 := nd_lt2 (E := 70) (Nat.lt_of_le_of_lt h (by
                        rw [show (2 : Nat) ^ 70 = 1024 * 2 ^ 60 by rw [show (1024 : Nat) = 2 ^ 10 by decide, ← Nat.pow_add]]
                        exact Nat.mul_lt_mul_of_pos_right (by rw [← Hm.out]; omega) (Nat.two_pow_pos 60)))
                      unfold LIM; omega
                    have hsm := Lib.hid (hSmall_any (w := w9) (cap := cp) hO.sl (by rw [hpl]; omega) hnd (HL.out.ext hEw9))
                    rw [hpl] at hsm
                    have Hok := Lib.hid (show rowOK M F0 T i ↔ prodR t M n = wantR M F0 i by unfold rowOK; rw [HtD.out, ← Hn.out])
                    obtain ⟨pr, hprr⟩ : ∃ pr, pr = prodR t M n := ⟨_, rfl⟩
                    rw [← hprr] at hsm Hok hpl
                    clear hpr hO hnd hprr
                    go_wp2_with fail
                    refine hsm.out.mono ?_
                    rintro e w10 ⟨hp, hE10⟩
                    have hEw10 := hEw9.trans hE10
                    clear hsm
                    cases hsb : smallB pr
                    · rw [hsb, if_neg (by decide)] at hp
                      obtain rfl := hp
                      have hfin := Lib.hid (Hbad.out w10 hEw10 (fun h => by
                        have h2 := Hok.out.1 (h.2.2.2 i (by rw [← Htl.out]; exact hlti))
                        rw [h2, wantR_small HeF.out] at hsb; cases hsb))
                      clear hsb hpl
                      go_wp2_with fail
                      go_ret
                      exact hfin.out
                    · rw [hsb, if_pos rfl] at hp
                      obtain ⟨u, rfl, hu⟩ := hp
                      have hu2 := hu.v.row
                      obtain ⟨su, nu, cu, rfl⟩ := row_shape hu2
                      have hre := Lib.hid (rowEqual_any hu2 (HW.out.ext (hE9.trans hE10)) (by rw [hpl]; omega))
                      obtain ⟨bq, hbq⟩ : ∃ bq, bq = decide (pr = wantR M F0 i) := ⟨_, rfl⟩
                      rw [← hbq] at hre
                      have Hbq2 := Lib.hid hbq
                      clear hsb hu hu2 hpl hbq
                      go_wp2_with fail
                      refine hre.out.mono ?_
                      rintro e w11 ⟨rfl, hE11⟩
                      have hEw11 := hEw10.trans hE11
                      clear hre
                      cases bq with
                      | false =>
                        have hfin := Lib.hid (Hbad.out w11 hEw11 (fun h => by
                          have h2 := Hok.out.1 (h.2.2.2 i (by rw [← Htl.out]; exact hlti))
                          have h3 := Hbq2.out
                          rw [decide_eq_true h2] at h3; cases h3))
                        go_wp2_with fail
                        go_ret
                        exact hfin.out
                      | true =>
                        have hR2 := Lib.hid (show ∀ j, j < i + 1 → rowOK M F0 T j from fun j hj => by
                          by_cases e : j = i
                          · subst e; exact Hok.out.2 (of_decide_eq_true Hbq2.out.symm)
                          · exact hR.out j (by omega))
                        go_wp2_with fail
                        go_roundw
                        case rel => exact ⟨i + 1, by omega, by go_num, hR2, hEw11⟩
                        case measure => simp [intOf] <;> omega
                · have hfin := Lib.hid (HVe2.out 0 Z hEZ ⟨F0, HF0.out, .inl ⟨rfl, Hs.out, rfl, Huni.out, fun j hj => hR.out j (by rw [← Htl.out] at hj; omega)⟩⟩)
                  go_wp2_with fail
                  go_ret
                  exact hfin.out
end Go.Proofs.YthmhmkkcjlgbjaaGreatDoor
/- Plain: the index by the reference's product of pivots -/
namespace Go.Proofs.YthmhmkkcjlgbjaaGreatDoor
open Hnf (V Span Ech Red)
theorem isH_pvi {n : Nat} {ps : List Nat} {F : Mx} (h : IsH n ps F) {i : Nat} (hi : i < F.length) : pv (F.getD i []) = ps.getD i 0 := by
  rw [isH_pv h, getD_map pv F i hi 0 []]
theorem isH_pvp {n : Nat} {ps : List Nat} {F : Mx} (h : IsH n ps F) : ∀ i, i < F.length → pv (F.getD i []) < n ∧ 0 < (F.getD i []).getD (pv (F.getD i [])) 0 := fun i hi => by
  rw [isH_pvi h hi]
  exact ⟨h.lt i hi, h.pos i hi⟩
theorem idx_floor {n : Nat} {F G : Mx} {ps qs : List Nat} (hF : IsH n ps F) (hG : IsH n qs G) (hs : ∀ v ∈ latM G, Span (latM F) v) (hl : F.length ≤ G.length) : G.length = F.length ∧ 0 < pivP F F F.length ∧ (pivP G G G.length).fdiv (pivP F F F.length) = idxN F G F.length := by
  obtain ⟨h1, h2⟩ := same_piv hF hG hs hl
  have h0 : ∀ i, i < F.length → 0 < eM F i (pv (F.getD i [])) := fun i hi => (isH_pvp hF i hi).2
  have e : ∀ i, i ≤ F.length → pivP G G i = pivP F G i := by
    intro i
    induction i with
    | zero => intro _; rfl
    | succ i ih =>
      intro hi
      rw [pivP, pivP, ih (by omega), isH_pvi hF (by omega), isH_pvi hG (by omega), (h2 i (by omega)).1]
  have hp := pivP_pos h0 F.length (Nat.le_refl _)
  have hm := idxN_mul (G := G) h0 (fun i hi => by rw [isH_pvi hF hi]; exact (h2 i hi).2) F.length (Nat.le_refl _)
  refine ⟨h1, hp, ?_⟩
  rw [h1, e F.length (Nat.le_refl _), ← hm, Int.mul_fdiv_cancel _ (by omega)]
theorem span_nil {v : V} (h : Span [] v) (j : Nat) : v j = 0 := span_col h fun r hr => by cases hr
theorem hnf_nil0 {n : Nat} {F : Mx} (h : HnfOf n [] F) : F.length = 0 := by
  obtain ⟨⟨ps, hI⟩, h1, _⟩ := h
  rcases Nat.eq_zero_or_pos F.length with h0 | h0
  · exact h0
  · have h2 := hI.pos 0 h0
    have h3 := span_nil (h1 (vr (F.getD 0 [])) (by rw [getD_get h0]; exact List.mem_map.2 ⟨F[0], List.getElem_mem h0, rfl⟩)) (ps.getD 0 0)
    unfold eM at h2
    unfold vr at h3
    omega
theorem ix_pair {M S F : Mx} {n : Nat} (hM : GridM M) (hS : GridM S) (hRM : Rect n M) (hRS : Rect n S) (hF : HnfOf (ncols M) M F) : pairE F S = 0 := by
  obtain ⟨_, hcF, hiF, hF4, hRF⟩ := grid_form hM hF
  obtain ⟨_, _, _, hcS⟩ := gridM_rect hS
  unfold pairE
  rw [if_pos hcF, if_pos hcS, if_pos hiF, if_neg]
  rintro ⟨a, b, c⟩
  refine c ?_
  rw [ncols_of hRF a, ncols_of hRS b]
  rcases Nat.eq_zero_or_pos M.length with h0 | h0
  · have e := List.eq_nil_of_length_eq_zero h0
    subst e
    have := hnf_nil0 hF
    omega
  · exact ncols_of hRM h0
/-- What the law's loop finds. -/
def inT (F S : Mx) (k : Nat) : Bool := (S.take k).all fun x => allZ (redX F x)
theorem inT_step {F S : Mx} {k : Nat} (h : k < S.length) : inT F S (k + 1) = (inT F S k && allZ (redX F S[k])) := by
  unfold inT
  rw [List.take_succ_eq_append_getElem h, List.all_append]
  simp
theorem allZ_zeroB (l : List Int) : allZ l = zeroB l := by
  rw [Bool.eq_iff_iff, zeroB_iff]
  unfold allZ zeroL
  rw [List.all_eq_true]
  exact ⟨fun h z hz => by simpa using h z hz, fun h z hz => by simpa using h z hz⟩
theorem inT_all {F S : Mx} {k : Nat} (h : S.length ≤ k) : inT F S k = inclB F S := by
  unfold inT
  rw [List.take_of_length_le h, Bool.eq_iff_iff, List.all_eq_true, inclB_iff]
  exact ⟨fun h x hx => by have := h x hx; rw [allZ_zeroB] at this; exact this, fun h x hx => by rw [allZ_zeroB]; exact h x hx⟩
theorem ix_span {F S : Mx} {n : Nat} {ps : List Nat} (hF : IsH n ps F) (hS : Rect n S) (h : inclB F S = true) : ∀ v ∈ latM S, Span (latM F) v := by
  intro v hv
  obtain ⟨x, hx, rfl⟩ := List.mem_map.1 hv
  exact (redX_zero hF (hS x hx)).1 (zeroB_iff.1 (inclB_iff.1 h x hx))
end Go.Proofs.YthmhmkkcjlgbjaaGreatDoor
/- schismaref07: Unimodular; what it says -/
namespace Go.Proofs.YthmhmkkcjlgbjaaGreatDoor
open Go.RowKit Go.Sort
theorem isH_diag {n : Nat} {ps : List Nat} {G : Mx} (hI : IsH n ps G) (hl : G.length = n) : ∀ i, i < n → ps.getD i 0 = i := by
  have hge : ∀ i, i < n → i ≤ ps.getD i 0 := by
    intro i
    induction i with
    | zero => intro _; omega
    | succ i ih => intro hi; have := ih (by omega); have := hI.inc i (i + 1) (by omega) (by omega); omega
  have hle : ∀ d i, i + d + 1 = n → ps.getD i 0 + d + 1 ≤ n := by
    intro d
    induction d with
    | zero => intro i hi; have := hI.lt i (by omega); omega
    | succ d ih => intro i hi; have := ih (i + 1) (by omega); have := hI.inc i (i + 1) (by omega) (by omega); omega
  intro i hi
  have := hge i hi
  have := hle (n - i - 1) i (by omega)
  omega
theorem mul_one_pos {a b : Int} (ha : 0 < a) (hb : 0 < b) (h : a * b = 1) : a = 1 ∧ b = 1 := by
  have h1 : a.natAbs * b.natAbs = 1 := by rw [← Int.natAbs_mul, h]; rfl
  have h2 := Nat.eq_one_of_mul_eq_one_right h1
  have h3 := Nat.eq_one_of_mul_eq_one_left h1
  omega
theorem uni_law {n : Nat} {ps : List Nat} {G : Mx} (hI : IsH n ps G) (hl : G.length = n) : (∀ i, i < n → eM G i i = 1) ↔ pivP G G G.length = 1 := by
  have hd := isH_diag hI hl
  have hp : ∀ i, i < n → pv (G.getD i []) = i := fun i hi => by rw [isH_pvi hI (by omega), hd i hi]
  have hpos : ∀ i, i < G.length → 0 < eM G i (pv (G.getD i [])) := fun i hi => (isH_pvp hI i hi).2
  rw [hl]
  have key : ∀ k, k ≤ n → ((∀ i, i < k → eM G i i = 1) ↔ pivP G G k = 1) := by
    intro k
    induction k with
    | zero => intro _; exact ⟨fun _ => rfl, fun _ i h => by omega⟩
    | succ k ih =>
      intro hk
      have ih := ih (by omega)
      rw [pivP, hp k (by omega)]
      have h1 := pivP_pos hpos k (by omega)
      have h2 := hpos k (by omega)
      rw [hp k (by omega)] at h2
      constructor
      · intro h
        rw [ih.1 fun i hi => h i (by omega), h k (by omega)]; rfl
      · intro h i hi
        obtain ⟨e1, e2⟩ := mul_one_pos h1 h2 h
        by_cases e : i = k
        · rw [e]; exact e2
        · exact ih.2 e1 i (by omega)
  exact key n (Nat.le_refl _)
def UrPost (w : World) (M : Mx) (e : Ending) (w' : World) : Prop :=
  ∃ b, e = .returned (.bool b) ∧ (M.length = 0 → b = true) ∧ (0 < M.length → M.length ≠ ncols M → b = false) ∧ (0 < M.length → M.length = ncols M → ∃ F, HnfOf (ncols M) M F ∧ (b = true ↔ F.length = M.length ∧ pivP F F F.length = 1)) ∧ Ext w w'
/-- Both say the same. -/
theorem uni_same {M : Mx} {b b' : Bool} (h1 : ncols M ≠ M.length → b = false) (h2 : ncols M = M.length → ∃ G, HnfOf (ncols M) M G ∧ (b = true ↔ (G.length = M.length ∧ ∀ i, i < M.length → eM G i i = 1)))
    (k1 : M.length = 0 → b' = true) (k2 : 0 < M.length → M.length ≠ ncols M → b' = false) (k3 : 0 < M.length → M.length = ncols M → ∃ F, HnfOf (ncols M) M F ∧ (b' = true ↔ F.length = M.length ∧ pivP F F F.length = 1)) : b = b' := by
  rcases Nat.eq_zero_or_pos M.length with h0 | h0
  · have e := List.eq_nil_of_length_eq_zero h0
    obtain ⟨G, hG, hb⟩ := h2 (by rw [e]; rfl)
    rw [k1 h0]
    refine hb.2 ⟨?_, fun i hi => by omega⟩
    subst e
    exact hnf_nil0 hG
  · by_cases hn : ncols M = M.length
    · obtain ⟨G, hG, hb⟩ := h2 hn
      obtain ⟨F, hF, hb'⟩ := k3 h0 hn.symm
      obtain rfl : G = F := hG.unique hF (fun v hv => .mem hv) (fun v hv => .mem hv)
      rw [Bool.eq_iff_iff, hb, hb']
      obtain ⟨⟨ps, hI⟩, _⟩ := hG
      rw [hn] at hI
      constructor
      · rintro ⟨e1, e2⟩; exact ⟨e1, (uni_law hI e1).1 e2⟩
      · rintro ⟨e1, e2⟩; exact ⟨e1, (uni_law hI e1).2 e2⟩
    · rw [h1 hn, k2 h0 (fun e => hn e.symm)]
set_option maxRecDepth 100000 in
set_option maxHeartbeats 2000000 in
theorem unimod07_any {w : World} {v : Value} {M : Mx} {E : Nat} (hM : MatR w v M) (hc : checkM M = 0) (hE : rkB M.length 30 (ncols M) = E) (hEl : E * (M.length + 1) + 1 ≤ 2900000000) (hL : Laid w) :
    Calls Tryz.prog 37 #[v] w (UrPost w M) := by
  obtain ⟨hm12, hn12, hrect, hent⟩ := checkM_ok hc
  have HL := Lib.hid hL
  have HRn := Lib.hid hrect
  have Hb30 := Lib.hid (show AllB 30 M from fun r hr z hz => by
    have e : (2 : Nat) ^ 30 = 1073741824 := by decide
    have := hent r hr z hz
    rw [e]; omega)
  have hto := Lib.hid (fun W (hW : Ext w W) => to_m (hM.ext hW) (fun r hr z hz => by have := hent r hr z hz; unfold I64; omega) (by omega) (fun r hr => by rw [hrect r hr]; omega) (hL.ext hW))
  have HE := Lib.hid hE
  have HEl := Lib.hid hEl
  obtain ⟨sa, gb, go, cap, vs, rfl, hcap, hvl, hSl, hr⟩ := hM
  have HSl := Lib.hid hSl
  have Hvl := Lib.hid hvl
  have Hr := Lib.hid hr
  obtain ⟨m, hm⟩ : ∃ m, m = M.length := ⟨_, rfl⟩
  obtain ⟨c, hcc⟩ : ∃ c, c = ncols M := ⟨_, rfl⟩
  have Hm := Lib.hid hm
  have Hc := Lib.hid hcc
  rw [← hm] at hm12 hcap
  rw [← hcc] at hn12
  rw [← hm]
  clear hc hrect hent hL hE hEl hSl hvl hr hm hcc
  by_cases h0 : m = 0
  · have hfin := fun W (hW : Ext w W) => Lib.hid (show UrPost w M (.returned (.bool true)) W from ⟨true, rfl, fun _ => rfl, fun h => absurd h (by rw [← Hm.out, h0]; omega), fun h => absurd h (by rw [← Hm.out, h0]; omega), hW⟩)
    have Hfin := Lib.hid hfin
    subst h0
    clear hfin
    go_enter Tryz.func37, Tryz.ntmps37
    go_wp2_with fail
    go_ret
    exact (Hfin.out _ (Ext.refl _)).out
  · have hmi : ¬ (m : Int) = 0 := by omega
    have hmb : ((m : Int) == 0) = false := beq_eq_false_iff_ne.2 hmi
    have hM0 : 0 < M.length := by rw [← Hm.out]; omega
    obtain rfl := HSl.out.addr (by rw [Hvl.out]; omega)
    obtain ⟨sr, br, or, cr, hrow, hrc, hSr⟩ := MatR.row HSl.out Hvl.out Hr.out hM0
    have hl0 : M[0].length = c := by rw [Hc.out]; exact HRn.out _ (List.getElem_mem hM0)
    rw [hl0, Nat.add_zero] at hrow
    clear hrc hSr hl0
    by_cases hne : m = c
    · have hto2 := Lib.hid (hto.out w (Ext.refl _))
      rw [← Hm.out] at hto2
      have Hne := Lib.hid hne
      subst hne
      clear hto
      go_enter Tryz.func37, Tryz.ntmps37
      go_wp2_with fail
      refine hto2.out.mono ?_
      rintro e w1 ⟨u1, rfl, hu1, hE1⟩
      have hfo := Lib.hid (form_w (k := 30) hu1.mat HRn.out (by rw [← Hm.out]; omega) (by rw [← Hc.out]; omega) Hb30.out (by
        rw [HE.out]
        have h1 : E * 1 ≤ E * (M.length + 1) := Nat.mul_le_mul_left _ (by omega)
        have := HEl.out
        omega) (HL.out.ext hE1))
      clear hto2 hu1
      go_wp2_with fail
      refine hfo.out.mono ?_
      rintro e w2 ⟨u2, F, rfl, hF, hB, hFl, hu2, hE2⟩
      have hE12 := hE1.trans hE2
      have HF := Lib.hid hF
      obtain ⟨⟨ps, hI⟩, -⟩ := hF
      rw [HE.out] at hB
      have hEF : E * (F.length + 1) + 1 ≤ 2900000000 := Nat.le_trans (Nat.add_le_add_right (Nat.mul_le_mul_left _ (by omega)) 1) HEl.out
      have hsz := Lib.hid (fun W (hW : Ext w2 W) => size_w (hu2.mat.ext hW) hI.rect (by rw [← Hc.out]; omega) (isH_pvp hI) hB hEF (by have := Hm.out; omega) (HL.out.ext (hE12.trans hW)))
      have hpl : (pc (pivP F F F.length).natAbs).length ≤ 100000000 := pc_bits (E := E * F.length + 1) (Nat.lt_of_le_of_lt (pivP_bd hB F.length (Nat.le_refl _)) (Nat.pow_lt_pow_right (by omega) (by omega))) (by
        have : E * F.length ≤ E * (F.length + 1) := Nat.mul_le_mul_left _ (by omega)
        omega)
      have hfr := Lib.hid (fun W (hW : Ext w2 W) (va : Value) (h : WhR W va (pivP F F F.length)) => from_w h hpl (HL.out.ext (hE12.trans hW)))
      obtain ⟨sg, _, _, cg, _, hvg, -⟩ := hu2.mat
      subst hvg
      obtain ⟨fn, hfn⟩ : ∃ fn, fn = F.length := ⟨_, rfl⟩
      obtain ⟨P, hP⟩ : ∃ P, P = pivP F F F.length := ⟨_, rfl⟩
      have Hfn := Lib.hid hfn
      have HP := Lib.hid hP
      have hfin := fun (b : Bool) W (hW : Ext w W) (hb : b = true ↔ fn = m ∧ P = 1) => Lib.hid (show UrPost w M (.returned (.bool b)) W from ⟨b, rfl, fun h => absurd h (by omega), fun _ h => absurd (Hm.out.symm.trans Hc.out) h, fun _ _ => ⟨F, HF.out, by rw [← Hfn.out, ← Hm.out, Hfn.out, ← HP.out, ← Hfn.out]; exact hb⟩, hW⟩)
      have Hfin := Lib.hid hfin
      have hsz2 := Lib.hid (hsz.out w2 (Ext.refl _))
      rw [← hfn, hfn, ← hP, ← hfn] at hsz2
      rw [← hP] at hfr
      rw [← hfn]
      clear hfo hu2 hI hB hEF hpl hfin hsz hfn hP
      by_cases hlen : fn = m
      · subst hlen
        have hitz := itoa_eq_one P
        have hE4f := fun W (hW : Ext w2 W) => hE12.trans hW
        clear hmb hmi
        by_cases hP1 : P = 1
        · rw [decide_eq_false (by simpa using hP1)] at hitz
          have hitz2 : (Lib.itoa P == [49]) = true := by simpa [bne] using hitz
          have Hfin2 := Lib.hid (fun W hW => Hfin.out true W hW ⟨fun _ => ⟨rfl, hP1⟩, fun _ => rfl⟩)
          clear hP1 Hfin
          go_wp2_with fail
          refine hsz2.out.mono ?_
          rintro e w3 ⟨z, rfl, hz, hE3⟩
          have hfr2 := Lib.hid (hfr.out w3 hE3 _ hz)
          obtain ⟨b1, s1, n1, k1, rfl⟩ := hz.shape
          clear hsz2 hfr hz
          go_wp2_with fail
          refine hfr2.out.mono ?_
          rintro e w4 ⟨rfl, hE4⟩
          have hEz := hE4f _ (hE3.trans hE4)
          clear hfr2 hE4f
          go_wp2_with fail
          go_ret
          exact (Hfin2.out _ hEz).out
        · rw [decide_eq_true hP1] at hitz
          have hitz2 : (Lib.itoa P == [49]) = false := by simpa [bne] using hitz
          have Hfin2 := Lib.hid (fun W hW => Hfin.out false W hW ⟨(fun h => by cases h), (fun h => absurd h.2 hP1)⟩)
          clear hP1 Hfin
          go_wp2_with fail
          refine hsz2.out.mono ?_
          rintro e w3 ⟨z, rfl, hz, hE3⟩
          have hfr2 := Lib.hid (hfr.out w3 hE3 _ hz)
          obtain ⟨b1, s1, n1, k1, rfl⟩ := hz.shape
          clear hsz2 hfr hz
          go_wp2_with fail
          refine hfr2.out.mono ?_
          rintro e w4 ⟨rfl, hE4⟩
          have hEz := hE4f _ (hE3.trans hE4)
          clear hfr2 hE4f
          go_wp2_with fail
          go_ret
          exact (Hfin2.out _ hEz).out
      · have hlb : ((fn : Int) == (m : Int)) = false := beq_eq_false_iff_ne.2 (by omega)
        have hli : ¬ (fn : Int) = (m : Int) := by omega
        go_wp2_with fail
        go_ret
        exact (Hfin.out false _ hE12 ⟨(fun h => by cases h), (fun h => absurd h.1 hlen)⟩).out
    · have hnb : ((m : Int) == (c : Int)) = false := beq_eq_false_iff_ne.2 (by omega)
      have hnb2 : ((m : Int) != (c : Int)) = true := by simp [bne, hnb]
      have hfin := fun W (hW : Ext w W) => Lib.hid (show UrPost w M (.returned (.bool false)) W from ⟨false, rfl, fun h => absurd h (by omega), fun _ _ => rfl, fun _ h => absurd h (by rw [← Hm.out, ← Hc.out]; exact hne), hW⟩)
      have Hfin := Lib.hid hfin
      clear hfin hne hto
      go_enter Tryz.func37, Tryz.ntmps37
      go_wp2_with fail
      go_ret
      exact (Hfin.out _ (Ext.refl _)).out
end Go.Proofs.YthmhmkkcjlgbjaaGreatDoor
