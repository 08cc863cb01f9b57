/- Part 28 of the proof of the claim: contracts of the functions that it reaches, and plain laws; no condition. -/
import Derived.Test.YtkjnjmihfonilaaGreatDoorV25
import Derived.Test.YtkjnjmihfonilaaGreatDoorV27
import Derived.Test.YtkjnjmihfonilaaGreatDoorV12
import Derived.Test.YtkjnjmihfonilaaGreatDoorV09
namespace Go.Proofs.YtkjnjmihfonilaaGreatDoor
open Go.RowKit Go.Sort
def bxE (np : Nat) (M : Mx) (r : List Int) (most : Int) : Int := if bgE M.length r = 0 then (if most < 0 ∨ 100 < most then 3 else (if 100000 < (2 * most.toNat + 1) ^ np then 4 else 0)) else bgE M.length r
def BxPost (w : World) (np : Nat) (M : Mx) (r : List Int) (most : Int) (e : Ending) (w' : World) : Prop :=
  Ext w w' ∧ ((bxE np M r most ≠ 0 ∧ e = .returned (.tuple #[.slice none 0 0, .int .i64 (bxE np M r most)])) ∨ (bxE np M r most = 0 ∧ ∃ v, e = .returned (.tuple #[v, .int .i64 0]) ∧ MatO w.heap.size w' v (bxL M r np most.toNat ((2 * most.toNat + 1) ^ np))))
theorem tmp_small {M : Mx} {r : List Int} (hr : chkRow r = 0) {y : List Int} (h : tmpL M y = r) : smallB (tmpL M y) = true := by
  rw [h]
  exact small_yes (fun t ht => by
    have := (chkRow_ok hr).2 _ (List.getElem_mem ht)
    unfold grt
    exact decide_eq_false (by omega))
theorem bx_bgE {np m k : Nat} (hn : np ≤ 4) (hm : m ≤ 100) : bgE np (bxR np m k) = 0 := by
  have h1 : chkRow (bxR np m k) = 0 := by
    have hg : (bxR np m k).any grt = false := by
      cases h : (bxR np m k).any grt
      · rfl
      · obtain ⟨z, hz, hg⟩ := List.any_eq_true.1 h
        have := bxR_b np m k z hz
        unfold grt at hg
        have := of_decide_eq_true hg
        omega
    unfold chkRow
    rw [bxR_length, if_neg (by omega), hg]; rfl
  unfold bgE
  rw [if_pos h1, bxR_length, if_pos rfl]
def rpI (n i : Nat) (a : Int) : List Int := List.replicate i a ++ List.replicate (n - i) 0
theorem rpI_length {n i : Nat} (h : i ≤ n) (a : Int) : (rpI n i a).length = n := by simp [rpI]; omega
theorem rpI_set {n i : Nat} (h : i < n) (a : Int) : (rpI n i a).set i a = rpI n (i + 1) a := by
  unfold rpI
  rw [List.set_append_right _ _ (by simp), List.length_replicate, Nat.sub_self, show n - i = (n - (i + 1)) + 1 by omega, List.replicate_succ (n := n - (i + 1)), List.set_cons_zero, List.replicate_succ' (n := i), List.append_assoc]
  rfl
set_option maxRecDepth 100000 in
set_option maxHeartbeats 8000000 in
theorem gBox_any {w : World} {P : List Int} {C M : Mx} {sp : Option Addr} {cp : Nat} {sc : Option Addr} {lc cc : Nat} {sm : Option Addr} {lm cm : Nat} {sx : Option Addr} {n cx : Nat} {r : List Int} {most : Int} (h : TmV w P C M M sp cp sc lc cc sm lm cm) (hx : RowR w (.slice sx n cx) r) (hL : Laid w) :
    Calls Tryz.prog 13 #[tmS P sp cp sc lc cc sm lm cm, .slice sx n cx, .int .i64 most] w (BxPost w P.length M r most) := by
  have hck := Lib.hid (fun W (hW : Ext w W) => tCheck_any (h.ext hW) (hL.ext hW))
  rw [tmE_same] at hck
  have hml : lm = M.length := by obtain ⟨_, _, _, _, _, e, _⟩ := h.hM; injection e
  have hsz := Lib.hid (fun W (hW : Ext w W) => gsized_any (m := M.length) (hx.ext hW))
  rw [← hml] at hsz
  have hX := (Ext.refl w).alloc (.cells #[.slice sp P.length cp, .slice sc lc cc, .slice sm lm cm] 34)
  have x0 : (w.alloc (.cells #[.slice sp P.length cp, .slice sc lc cc, .slice sm lm cm] 34)).cell? ⟨w.heap.size, 0, none⟩ = some (.slice sp P.length cp) := by go_simp
  have x1 : (w.alloc (.cells #[.slice sp P.length cp, .slice sc lc cc, .slice sm lm cm] 34)).cell? ⟨w.heap.size, 1, none⟩ = some (.slice sc lc cc) := by go_simp
  have x2 : (w.alloc (.cells #[.slice sp P.length cp, .slice sc lc cc, .slice sm lm cm] 34)).cell? ⟨w.heap.size, 2, none⟩ = some (.slice sm lm cm) := by go_simp
  have hp0 := h.ok.p0
  have hp4 := h.ok.p4
  have hszV : w.heap.size < (w.alloc (.cells #[.slice sp P.length cp, .slice sc lc cc, .slice sm lm cm] 34)).heap.size := by simp
  obtain ⟨c0, hc0⟩ : ∃ c0, c0 = bgE lm r := ⟨_, rfl⟩
  rw [← hc0] at hsz
  have Hc0 := Lib.hid (show c0 = bgE M.length r by rw [← hml]; exact hc0)
  obtain ⟨np, hnp⟩ : ∃ np, np = P.length := ⟨_, rfl⟩
  have Hnp := Lib.hid hnp
  by_cases hb : c0 = 0
  · have Hb0 := Lib.hid (show bgE M.length r = 0 by rw [← Hc0.out]; exact hb)
    subst hb
    by_cases hm : most < 0 ∨ 100 < most
    · have Hres := Lib.hid (show ∀ W, Ext w W → BxPost w P.length M r most (.returned (.tuple #[.slice none 0 0, .int .i64 3])) W from fun W hW => by
        have he : bxE P.length M r most = 3 := by unfold bxE; rw [if_pos Hb0.out, if_pos hm]
        exact ⟨hW, .inl ⟨by rw [he]; decide, by rw [he]⟩⟩)
      clear hc0 hnp hml h hx hL
      rcases hm with hm | hm
      · go_enter Tryz.func13, Tryz.ntmps13
        go_wp2_with fail
        refine (hck.out _ hX).mono ?_
        rintro e X ⟨rfl, hE1⟩
        have y2 := hE1.cell x2
        have e1 := hX.trans hE1
        go_wp2_with fail
        refine (hsz.out _ e1).mono ?_
        rintro e X2 ⟨rfl, hE2⟩
        have e2 := e1.trans hE2
        go_wp2_with fail
        go_ret2
        exact Hres.out _ e2
      · have hm2 : ¬ most < 0 := by omega
        go_enter Tryz.func13, Tryz.ntmps13
        go_wp2_with fail
        refine (hck.out _ hX).mono ?_
        rintro e X ⟨rfl, hE1⟩
        have y2 := hE1.cell x2
        have e1 := hX.trans hE1
        go_wp2_with fail
        refine (hsz.out _ e1).mono ?_
        rintro e X2 ⟨rfl, hE2⟩
        have e2 := e1.trans hE2
        go_wp2_with fail
        go_ret2
        exact Hres.out _ e2
    · obtain ⟨m, rfl⟩ : ∃ m : Nat, most = (m : Int) := ⟨most.toNat, by omega⟩
      have hm100 : m ≤ 100 := by omega
      have hn1 : ¬ (m : Int) < 0 := by omega
      have hn2 : ¬ (100 : Int) < (m : Int) := by omega
      obtain ⟨Tt, hT⟩ : ∃ T, T = (2 * m + 1) ^ np := ⟨_, rfl⟩
      have HT := Lib.hid hT
      have HE := Lib.hid (show bxE P.length M r m = if 100000 < Tt then 4 else 0 by
        unfold bxE
        rw [if_pos Hb0.out, if_neg hm, Int.toNat_natCast, ← hnp, ← hT])
      have hte := Lib.hid (fun W s c x (hW : Ext w W) (hx : RowR W (.slice s (List.length x) c) x) => Temper_any (h.ext hW) hx (hL.ext hW))
      have heq := Lib.hid (fun W v y (hW : Ext w W) (hy : RowR W v y) (hl : y.length ≤ 1000000) => rowEqual_any hy (hx.ext hW) hl)
      have HbT := Lib.hid (fun k => bx_bgE (k := k) hp4 hm100)
      have Hrs := Lib.hid (fun y (h : tmpL M y = r) => tmp_small (M := M) (bgE_ok Hb0.out).1 h)
      obtain ⟨psM, hIM⟩ := h.ok.kM.1
      have hlM4 : M.length ≤ 4 := by have := isH_len hIM; omega
      have hw1 : IntKind.i64.wrap (2 * (m : Int)) = 2 * m := IntWalk.i64_in _ (by omega)
      have hw2 : IntKind.i64.wrap (2 * (m : Int) + 1) = 2 * m + 1 := IntWalk.i64_in _ (by omega)
      have hwn : IntKind.i64.wrap (-(m : Int)) = -m := IntWalk.i64_in _ (by omega)
      obtain ⟨i0, hi, hz0, hz1, hz2⟩ := info_parts Tryz.infoInt
      have Hinfo := Lib.hid (⟨hi, hz0, hz1, hz2⟩ : _ ∧ _ ∧ _ ∧ _)
      clear hc0 h hx hL hIM hm hi hz0 hz1 hz2 hml hnp hT
      go_enter Tryz.func13, Tryz.ntmps13
      go_wp2_with fail
      refine (hck.out _ hX).mono ?_
      rintro e X ⟨rfl, hE1⟩
      have y0 := hE1.cell x0
      have y1 := hE1.cell x1
      have y2 := hE1.cell x2
      have hszX : w.heap.size < X.heap.size := Nat.lt_of_lt_of_le hszV hE1.size
      have e1 := hX.trans hE1
      clear hck hE1 x0 x1 x2 hX hszV
      go_wp2_with fail
      refine (hsz.out _ e1).mono ?_
      rintro e X2 ⟨rfl, hE2⟩
      have z0 := hE2.cell y0
      have z1 := hE2.cell y1
      have z2 := hE2.cell y2
      have hszX2 : w.heap.size < X2.heap.size := Nat.lt_of_lt_of_le hszX hE2.size
      have e2 := e1.trans hE2
      clear hsz hE2 y0 y1 y2 e1 hszX
      go_wp2_with fail
      go_loopw [6, 7, 10, 39] (fun rv ev cv idx wr => ∃ i : Nat, i ≤ P.length ∧ idx = .int .i64 i ∧ rv = .slice none 0 0 ∧ ev = .int .i64 0 ∧ cv = .int .i64 (((2 * m + 1) ^ i : Nat) : Int) ∧ Hid ((2 * m + 1) ^ i ≤ 100000) ∧ Ext X2 wr) (fun _ _ _ idx _ => P.length - (intOf idx).toNat)
      case atStart => exact ⟨0, by omega, by go_num, rfl, rfl, by rw [Nat.pow_zero]; rfl, Lib.hid (by rw [Nat.pow_zero]; omega), Ext.refl _⟩
      case round =>
        obtain ⟨i, hi', rfl, rfl, rfl, rfl, HC, hE⟩ := hrel
        generalize wr = Y at *
        have y0 := hE.cell z0
        have y1 := hE.cell z1
        have y2 := hE.cell z2
        have eY := e2.trans hE
        have hszY : w.heap.size < Y.heap.size := Nat.lt_of_lt_of_le hszX2 hE.size
        by_cases hlt : i < P.length
        · have hii : (i : Int) < (P.length : Int) := by omega
          obtain ⟨c, hc⟩ : ∃ c, c = (2 * m + 1) ^ i := ⟨_, rfl⟩
          have hcb := HC.out
          rw [← hc] at hcb ⊢
          have hst : (2 * m + 1) ^ (i + 1) = c * (2 * m + 1) := by rw [hc, Nat.pow_succ]
          have hcp : c * (2 * m + 1) ≤ 100000 * 201 := Nat.mul_le_mul hcb (by omega)
          have hci : (c : Int) * (2 * (m : Int) + 1) = ((c * (2 * m + 1) : Nat) : Int) := by push_cast; rfl
          have hw3 : IntKind.i64.wrap ((c : Int) * (2 * (m : Int) + 1)) = ((c * (2 * m + 1) : Nat) : Int) := by rw [hci]; exact IntWalk.i64_in _ (by omega)
          have Hst := Lib.hid hst
          have hmono : (2 * m + 1) ^ (i + 1) ≤ (2 * m + 1) ^ np := Nat.pow_le_pow_right (by omega) (by have := Hnp.out; omega)
          rw [← HT.out, hst] at hmono
          clear hc HC hst hci
          generalize c * (2 * m + 1) = d at *
          by_cases hd : 100000 < d
          · have hdI : (100000 : Int) < (d : Int) := by omega
            have Hres := Lib.hid (show ∀ W, Ext w W → BxPost w P.length M r m (.returned (.tuple #[.slice none 0 0, .int .i64 4])) W from fun W hW => by
              have he : bxE P.length M r m = 4 := by rw [HE.out, if_pos (by omega)]
              exact ⟨hW, .inl ⟨by rw [he]; decide, by rw [he]⟩⟩)
            go_wp2_with fail
            go_ret2
            exact Hres.out _ eY
          · have hdI : ¬ (100000 : Int) < (d : Int) := by omega
            have Hd := Lib.hid (show (2 * m + 1) ^ (i + 1) ≤ 100000 by rw [Hst.out]; omega)
            clear hd
            go_wp2_with fail
            go_roundw
            case rel => exact ⟨i + 1, by omega, by go_num, rfl, rfl, by rw [Hst.out], Hd, hE⟩
            case measure => simp [intOf] <;> omega
        · obtain rfl : i = P.length := by omega
          have hT0 : Tt ≤ 100000 := by have := HC.out; rw [HT.out, Hnp.out]; exact this
          have hTp : 0 < Tt := by rw [HT.out]; exact Nat.pow_pos (by omega)
          have Hzero := Lib.hid (show bxE P.length M r m = 0 by rw [HE.out, if_neg (by omega)])
          clear HC HE z0 z1 z2 hE e2 hszX2 hi' hw1 hw2
          go_wp2_with (at_make; refine wpList_make_full _ rfl _ _ 26 rfl Y.heap.size 3 i0 (.int .i64 0) 1 Tryz.underlying26 Hinfo.out.1 Hinfo.out.2.1 Hinfo.out.2.2.1 .i64 .i64 _ _ P.length rfl rfl (by omega) (by omega) (by rw [Hinfo.out.2.2.2]; omega) (by unfold maxLen; omega) (Nat.le_refl _) ?_; intro w1 hown1 hgrow1)
          have hE1 := ext_grown hgrow1
          have HO1 := Lib.hid (show OwnV 3 w.heap.size w1 Y.heap.size P.length (is (rpI P.length 0 (-(m : Int)))) from OwnV.mono (B := Y.heap.size) (by
            have := row_ownV (zero_row hown1) (by simp)
            unfold rpI; simpa using this) (by omega))
          have gxl : Y.heap.size < w1.heap.size := HO1.out.lt.2
          have y0 := hE1.cell y0
          have y1 := hE1.cell y1
          have y2 := hE1.cell y2
          have e3 := eY.trans hE1
          clear hown1 hgrow1 hE1 eY
          obtain ⟨gx, hgx⟩ : ∃ gx, gx = Y.heap.size := ⟨_, rfl⟩
          rw [← hgx] at HO1 gxl hszY ⊢
          clear hgx
          go_wp2_with fail
          go_loopw [55] (fun idx wr => ∃ i : Nat, i ≤ P.length ∧ idx = .int .i64 i ∧ Hid (OwnV 3 w.heap.size wr gx P.length (is (rpI P.length i (-(m : Int))))) ∧ Hid (Chg (fun k => k = gx) w1 wr)) (fun idx _ => P.length - (intOf idx).toNat)
          case atStart => exact ⟨0, by omega, by go_num, HO1, Lib.hid (Chg.refl _ _)⟩
          case round =>
            clear HO1
            obtain ⟨i, hi', rfl, HO, HC⟩ := hrel
            generalize wr = Z at *
            by_cases hlt : i < P.length
            · have hii : (i : Int) < (P.length : Int) := by omega
              have hcl := HO.out.cell (j := i) (by rw [is_length, rpI_length hi']; exact hlt)
              have fr := HO.out.frozen i
              obtain ⟨HO2, hG2⟩ := HO.out.set i (.int .i64 (-(m : Int)))
              rw [← is_set, rpI_set hlt] at HO2
              have HO3 := Lib.hid HO2
              have HC3 := Lib.hid (HC.out.trans (Chg.of_grown hG2 rfl))
              obtain ⟨cv, hcv⟩ : ∃ cv, cv = (is (rpI P.length i (-(m : Int))))[i]'(by rw [is_length, rpI_length hi']; exact hlt) := ⟨_, rfl⟩
              rw [← hcv] at hcl
              clear hcv HO2 hG2 HO HC
              go_wp2_with fail
              go_roundw
              case rel => exact ⟨i + 1, by omega, by go_num, HO3, HC3⟩
              case measure => simp [intOf] <;> omega
            · obtain rfl : i = P.length := by omega
              have HX := Lib.hid (show OwnV 3 w.heap.size Z gx P.length (is (bxR P.length m 0)) by
                have h := HO.out
                unfold rpI at h
                rw [Nat.sub_self, List.replicate_zero, List.append_nil] at h
                rw [bxR_zero]; exact h)
              clear HO hi' hlt
              go_wp2_with fail
              go_loopg [6, 7, 11] Tt (fun gm rv ev ov wr => ∃ k : Nat, k < Tt ∧ gm = Tt - k ∧ rv = .slice none 0 0 ∧ ev = .int .i64 0 ∧ Hid (MatO w1.heap.size wr ov (bxL M r P.length m k)) ∧ Hid (OwnV 3 w.heap.size wr gx P.length (is (bxR P.length m k))) ∧ Hid (Chg (fun k => k = gx) w1 wr))
              case atStart => exact ⟨0, hTp, by omega, rfl, rfl, Lib.hid (MatO.nil _ _), HX, HC⟩
              case round =>
                clear HX HC
                obtain ⟨k, hk, hg, rfl, rfl, HM, HX, HC⟩ := hrel
                generalize wr = U at *
                have eU : Ext w U := HC.out.ext e3 (by rintro q rfl; omega)
                have v0 := HC.out.cell (by omega) y0
                have v1 := HC.out.cell (by omega) y1
                have v2 := HC.out.cell (by omega) y2
                have hUs := HC.out.size
                have hlx : (bxR P.length m k).length = P.length := bxR_length _ _ _
                have hXr := fun W (hW : Ext U W) => (⟨_, gx, 0, P.length, by rw [hlx], by rw [hlx]; exact Nat.le_refl _, (HX.out.ext hW).sl⟩ : RowR W (slv gx P.length P.length) (bxR P.length m k))
                have htk := hte.out U (some ⟨gx, 0, none⟩) P.length (bxR P.length m k) eU (by rw [hlx]; exact hXr U (Ext.refl _))
                rw [hlx] at htk
                have HXr := Lib.hid hXr
                have Htk := Lib.hid htk
                have Hbk := Lib.hid (HbT.out k)
                have hsml := Lib.hid (Hrs.out (bxR P.length m k))
                have hbl := Lib.hid (bxL_len M r P.length m k)
                clear hXr htk hlx
                go_wp2_with fail
                refine Htk.out.mono ?_
                rintro e W ⟨hE4, (⟨k1, k2, v, rfl, hv⟩ | ⟨k1, k2, rfl⟩ | ⟨k1, rfl⟩)⟩
                · obtain ⟨va, vl, vc, rfl⟩ := RowV.slice hv
                  have hq := Lib.hid (heq.out W _ _ (eU.trans hE4) hv.row (by rw [tmpL_length]; omega))
                  by_cases hty : tmpL M (bxR P.length m k) = r
                  · rw [decide_eq_true hty] at hq
                    have Hyes := Lib.hid (bxL_yes (n := P.length) (m := m) (k := k) hty)
                    clear hv k1 k2 hty
                    go_wp2_with fail
                    refine hq.out.mono ?_
                    rintro e W2 ⟨rfl, hE5⟩
                    have eW := hE4.trans hE5
                    have hX2 := eW.alloc (.cells #[] 3)
                    have hW2s := eW.size
                    have HOe := Lib.hid (show RowV U.heap.size (W2.alloc (.cells #[] 3)) (slv W2.heap.size 0 0) [] from RowV.mono (own_none W2 3) hW2s)
                    go_wp2_with (first
                      | (at_builtin; refine app_rowP rfl _ _ 26 Tryz.underlying26 rfl rfl HOe.out rfl (HXr.out _ hX2) hp0 (by simp; omega) (by simp; omega) ?_; intro g cap w8 hO8 hB8 hG8 _; rw [List.nil_append, List.length_nil, Nat.zero_add] at hO8; rw [List.length_nil, Nat.zero_add]; have e8 : Ext U w8 := Below.trans hX2 hB8; have HR8 := Lib.hid (hO8.mono hUs); have HM8 := Lib.hid (HM.out.ext e8); have HX8 := Lib.hid (HX.out.ext e8); have HC8 := Lib.hid (HC.out.trans (Chg.of_ext e8)); have h8s := HC8.out.size; clear hO8 hB8 hG8)
                      | (at_builtin; refine app_lrow rfl _ _ 31 Tryz.underlying31 rfl rfl (HM8.out.ext ((Ext.refl _).alloc (.cells #[slv g P.length cap] 26))) (b := w8.heap.size) (rv := slv g P.length cap) (r := bxR P.length m k) rfl (by go_simp) (HR8.out.ext ((Ext.refl _).alloc _)) (by have := hbl.out; omega) (by simp; omega) ?_; intro g9 cap9 w9 hO9 hB9 hG9; have HC9 := Lib.hid (chg_below (HC8.out.trans (Chg.of_ext ((Ext.refl w8).alloc (.cells #[slv g P.length cap] 26)))) hB9); have HX9 := Lib.hid (box_kept (HX8.out.ext ((Ext.refl w8).alloc (.cells #[slv g P.length cap] 26))) (HM8.out.ext ((Ext.refl w8).alloc (.cells #[slv g P.length cap] 26))) (by decide) hG9); rw [← Hyes.out] at hO9; have HM9 := Lib.hid hO9; clear hO9 hB9 hG9))
                    replace HM := HM9
                    replace HX := HX9
                    replace HC := HC9
                    clear HXr Htk hsml v0 v1 v2 eU HM9 HX9 HC9 HM8 HX8 HC8 HR8 HOe
                    have hpI : IntKind.i64.wrap ((P.length : Int) - 1) = (P.length : Int) - 1 := IntWalk.i64_in _ (by omega)
                    go_wp2_with fail
                    go_loopw [16] (fun iv wr => ∃ j : Nat, j ≤ P.length ∧ iv = .int .i64 ((j : Int) - 1) ∧ Hid (OwnV 3 w.heap.size wr gx P.length (is (bxT P.length m k j))) ∧ Hid (∀ i, j ≤ i → i < P.length → (bxR P.length m k).getD i 0 = m) ∧ Hid (Chg (fun k => k = gx) w1 wr) ∧ Hid (MatO w1.heap.size wr (slv g9 ((bxL M r P.length m k).length + 1) cap9) (bxL M r P.length m (k + 1)))) (fun iv _ => (intOf iv + 1).toNat)
                    case atStart => exact ⟨P.length, Nat.le_refl _, by go_num, Lib.hid (by rw [bxT_all]; exact HX.out), Lib.hid (fun i h1 h2 => by omega), HC, HM⟩
                    case round =>
                      clear HM HX HC
                      obtain ⟨j, hj, rfl, HX, HK, HC, HM⟩ := hrel
                      generalize wr = Z2 at *
                      rcases Nat.eq_zero_or_pos j with hj0 | hj0
                      · subst hj0
                        have Hdn := Lib.hid (bxR_done (n := P.length) (m := m) (k := k) (fun i hi => HK.out i (Nat.zero_le _) hi) (by rw [← Hnp.out, ← HT.out]; exact hk))
                        rw [show (((0 : Nat) : Int) - 1) = -1 from rfl]
                        have eF : Ext w Z2 := HC.out.ext e3 (by rintro q rfl; omega)
                        have hw1s := e3.size
                        have Hres := Lib.hid (show BxPost w P.length M r m (.returned (.tuple #[(slv g9 ((bxL M r P.length m k).length + 1) cap9), .int .i64 0])) Z2 from ⟨eF, .inr ⟨Hzero.out, _, rfl, by rw [Int.toNat_natCast, ← Hdn.out]; exact HM.out.mono hw1s⟩⟩)
                        clear HX HK HC HM
                        go_wp2_with fail
                        go_ret2
                        exact Hres.out
                      · obtain ⟨i, rfl⟩ : ∃ i, j = i + 1 := ⟨j - 1, by omega⟩
                        rw [show (((i + 1 : Nat) : Int) - 1) = (i : Int) by omega]
                        have hi0 : ¬ (i : Int) < 0 := by omega
                        have hi1 : (0 : Int) ≤ (i : Int) := by omega
                        have hip : (i : Int) < (P.length : Int) := by omega
                        obtain ⟨d, hd⟩ : ∃ d, d = (bxR P.length m k).getD i 0 := ⟨_, rfl⟩
                        have hcl := HX.out.cell (j := i) (by rw [is_length, bxT_length hj]; omega)
                        have fr := HX.out.frozen i
                        have hce : (is (bxT P.length m k (i + 1)))[i]'(by rw [is_length, bxT_length hj]; omega) = .int .i64 d := by
                          simp only [is, List.getElem_map]
                          have := bxT_get (n := P.length) (m := m) (k := k) hj0 hj
                          simp only [Nat.add_sub_cancel] at this
                          rw [this, hd]
                        rw [hce] at hcl
                        have hdb : -(m : Int) ≤ d ∧ d ≤ m := by
                          rw [hd, getD_get (show i < (bxR P.length m k).length by simp; omega)]
                          exact bxR_b _ _ _ _ (List.getElem_mem _)
                        by_cases hdm : d = m
                        · have Hpr := Lib.hid (bxT_pred (n := P.length) (m := m) (k := k) hj0 hj)
                          obtain ⟨HX2, hG2⟩ := HX.out.set i (.int .i64 (-(m : Int)))
                          rw [← is_set] at HX2
                          have e1 := Hpr.out
                          rw [Nat.add_sub_cancel] at e1
                          rw [e1] at HX2
                          have HX3 := Lib.hid HX2
                          have HK3 := Lib.hid (show ∀ t, i ≤ t → t < P.length → (bxR P.length m k).getD t 0 = m from fun t h1 h2 => by
                            rcases Nat.lt_or_ge i t with h | h
                            · exact HK.out t h h2
                            · obtain rfl : t = i := by omega
                              rw [← hd]; exact hdm)
                          have HC3 := Lib.hid (HC.out.trans (Chg.of_grown hG2 rfl))
                          have HM3 := Lib.hid (HM.out.below hG2 gxl)
                          have hwi : IntKind.i64.wrap ((i : Int) - 1) = (i : Int) - 1 := IntWalk.i64_in _ (by omega)
                          rw [hdm] at hcl
                          clear HX2 hG2 HX HK HC HM e1 hd hdm hce hdb
                          go_wp2_with fail
                          go_roundw
                          case rel => exact ⟨i, by omega, by go_num, HX3, HK3, HC3, HM3⟩
                          case measure => simp [intOf] <;> omega
                        · have hdmb : (d == (m : Int)) = false := beq_eq_false_iff_ne.2 hdm
                          have hbs := bxR_step (n := P.length) (m := m) (k := k) hj0 hj (fun t h1 h2 => HK.out t h1 h2) (by rw [Nat.add_sub_cancel, ← hd]; exact hdm) (by rw [← Hnp.out, ← HT.out]; exact hk)
                          rw [Nat.add_sub_cancel, ← hd, ← Hnp.out, ← HT.out] at hbs
                          obtain ⟨hb1, hb2⟩ := hbs
                          have hwd : IntKind.i64.wrap (d + 1) = d + 1 := IntWalk.i64_in _ (by omega)
                          obtain ⟨HX2, hG2⟩ := HX.out.set i (.int .i64 (d + 1))
                          have e1 := bxT_set (n := P.length) (m := m) (k := k) hj0 hj (d + 1)
                          rw [Nat.add_sub_cancel] at e1
                          rw [Hnp.out] at hb1
                          rw [← is_set, e1, ← hb1] at HX2
                          have HX3 := Lib.hid HX2
                          have HC3 := Lib.hid (HC.out.trans (Chg.of_grown hG2 rfl))
                          have HM3 := Lib.hid (HM.out.below hG2 gxl)
                          clear HX2 hG2 HX HK HC HM e1 hb1 hd hce
                          go_wp2_with fail
                          go_roundg (Tt - (k + 1))
                          case measure => omega
                          case rel => exact ⟨k + 1, hb2, rfl, rfl, rfl, HM3, HX3, HC3⟩
                  · rw [decide_eq_false hty] at hq
                    have Hno := Lib.hid (bxL_no (n := P.length) (m := m) (k := k) hty)
                    clear hv k1 k2 hty
                    go_wp2_with fail
                    refine hq.out.mono ?_
                    rintro e W2 ⟨rfl, hE5⟩
                    have eW := hE4.trans hE5
                    replace HM := Lib.hid (show MatO w1.heap.size W2 u11 (bxL M r P.length m (k + 1)) by rw [Hno.out]; exact HM.out.ext eW)
                    replace HX := Lib.hid (HX.out.ext eW)
                    replace HC := Lib.hid (HC.out.trans (Chg.of_ext eW))
                    clear HXr Htk hsml v0 v1 v2 eU
                    have hpI : IntKind.i64.wrap ((P.length : Int) - 1) = (P.length : Int) - 1 := IntWalk.i64_in _ (by omega)
                    go_wp2_with fail
                    go_loopw [16] (fun iv wr => ∃ j : Nat, j ≤ P.length ∧ iv = .int .i64 ((j : Int) - 1) ∧ Hid (OwnV 3 w.heap.size wr gx P.length (is (bxT P.length m k j))) ∧ Hid (∀ i, j ≤ i → i < P.length → (bxR P.length m k).getD i 0 = m) ∧ Hid (Chg (fun k => k = gx) w1 wr) ∧ Hid (MatO w1.heap.size wr u11 (bxL M r P.length m (k + 1)))) (fun iv _ => (intOf iv + 1).toNat)
                    case atStart => exact ⟨P.length, Nat.le_refl _, by go_num, Lib.hid (by rw [bxT_all]; exact HX.out), Lib.hid (fun i h1 h2 => by omega), HC, HM⟩
                    case round =>
                      clear HM HX HC
                      obtain ⟨j, hj, rfl, HX, HK, HC, HM⟩ := hrel
                      generalize wr = Z2 at *
                      rcases Nat.eq_zero_or_pos j with hj0 | hj0
                      · subst hj0
                        have Hdn := Lib.hid (bxR_done (n := P.length) (m := m) (k := k) (fun i hi => HK.out i (Nat.zero_le _) hi) (by rw [← Hnp.out, ← HT.out]; exact hk))
                        rw [show (((0 : Nat) : Int) - 1) = -1 from rfl]
                        have eF : Ext w Z2 := HC.out.ext e3 (by rintro q rfl; omega)
                        have hw1s := e3.size
                        have Hres := Lib.hid (show BxPost w P.length M r m (.returned (.tuple #[u11, .int .i64 0])) Z2 from ⟨eF, .inr ⟨Hzero.out, _, rfl, by rw [Int.toNat_natCast, ← Hdn.out]; exact HM.out.mono hw1s⟩⟩)
                        clear HX HK HC HM
                        go_wp2_with fail
                        go_ret2
                        exact Hres.out
                      · obtain ⟨i, rfl⟩ : ∃ i, j = i + 1 := ⟨j - 1, by omega⟩
                        rw [show (((i + 1 : Nat) : Int) - 1) = (i : Int) by omega]
                        have hi0 : ¬ (i : Int) < 0 := by omega
                        have hi1 : (0 : Int) ≤ (i : Int) := by omega
                        have hip : (i : Int) < (P.length : Int) := by omega
                        obtain ⟨d, hd⟩ : ∃ d, d = (bxR P.length m k).getD i 0 := ⟨_, rfl⟩
                        have hcl := HX.out.cell (j := i) (by rw [is_length, bxT_length hj]; omega)
                        have fr := HX.out.frozen i
                        have hce : (is (bxT P.length m k (i + 1)))[i]'(by rw [is_length, bxT_length hj]; omega) = .int .i64 d := by
                          simp only [is, List.getElem_map]
                          have := bxT_get (n := P.length) (m := m) (k := k) hj0 hj
                          simp only [Nat.add_sub_cancel] at this
                          rw [this, hd]
                        rw [hce] at hcl
                        have hdb : -(m : Int) ≤ d ∧ d ≤ m := by
                          rw [hd, getD_get (show i < (bxR P.length m k).length by simp; omega)]
                          exact bxR_b _ _ _ _ (List.getElem_mem _)
                        by_cases hdm : d = m
                        · have Hpr := Lib.hid (bxT_pred (n := P.length) (m := m) (k := k) hj0 hj)
                          obtain ⟨HX2, hG2⟩ := HX.out.set i (.int .i64 (-(m : Int)))
                          rw [← is_set] at HX2
                          have e1 := Hpr.out
                          rw [Nat.add_sub_cancel] at e1
                          rw [e1] at HX2
                          have HX3 := Lib.hid HX2
                          have HK3 := Lib.hid (show ∀ t, i ≤ t → t < P.length → (bxR P.length m k).getD t 0 = m from fun t h1 h2 => by
                            rcases Nat.lt_or_ge i t with h | h
                            · exact HK.out t h h2
                            · obtain rfl : t = i := by omega
                              rw [← hd]; exact hdm)
                          have HC3 := Lib.hid (HC.out.trans (Chg.of_grown hG2 rfl))
                          have HM3 := Lib.hid (HM.out.below hG2 gxl)
                          have hwi : IntKind.i64.wrap ((i : Int) - 1) = (i : Int) - 1 := IntWalk.i64_in _ (by omega)
                          rw [hdm] at hcl
                          clear HX2 hG2 HX HK HC HM e1 hd hdm hce hdb
                          go_wp2_with fail
                          go_roundw
                          case rel => exact ⟨i, by omega, by go_num, HX3, HK3, HC3, HM3⟩
                          case measure => simp [intOf] <;> omega
                        · have hdmb : (d == (m : Int)) = false := beq_eq_false_iff_ne.2 hdm
                          have hbs := bxR_step (n := P.length) (m := m) (k := k) hj0 hj (fun t h1 h2 => HK.out t h1 h2) (by rw [Nat.add_sub_cancel, ← hd]; exact hdm) (by rw [← Hnp.out, ← HT.out]; exact hk)
                          rw [Nat.add_sub_cancel, ← hd, ← Hnp.out, ← HT.out] at hbs
                          obtain ⟨hb1, hb2⟩ := hbs
                          have hwd : IntKind.i64.wrap (d + 1) = d + 1 := IntWalk.i64_in _ (by omega)
                          obtain ⟨HX2, hG2⟩ := HX.out.set i (.int .i64 (d + 1))
                          have e1 := bxT_set (n := P.length) (m := m) (k := k) hj0 hj (d + 1)
                          rw [Nat.add_sub_cancel] at e1
                          rw [Hnp.out] at hb1
                          rw [← is_set, e1, ← hb1] at HX2
                          have HX3 := Lib.hid HX2
                          have HC3 := Lib.hid (HC.out.trans (Chg.of_grown hG2 rfl))
                          have HM3 := Lib.hid (HM.out.below hG2 gxl)
                          clear HX2 hG2 HX HK HC HM e1 hb1 hd hce
                          go_wp2_with fail
                          go_roundg (Tt - (k + 1))
                          case measure => omega
                          case rel => exact ⟨k + 1, hb2, rfl, rfl, rfl, HM3, HX3, HC3⟩
                · have Hno := Lib.hid (bxL_no (n := P.length) (m := m) (k := k) (fun h => by have := hsml.out h; rw [k2] at this; cases this))
                  clear k1 k2
                  replace HM := Lib.hid (show MatO w1.heap.size W u11 (bxL M r P.length m (k + 1)) by rw [Hno.out]; exact HM.out.ext hE4)
                  replace HX := Lib.hid (HX.out.ext hE4)
                  replace HC := Lib.hid (HC.out.trans (Chg.of_ext hE4))
                  clear HXr Htk hsml v0 v1 v2 eU
                  have hpI : IntKind.i64.wrap ((P.length : Int) - 1) = (P.length : Int) - 1 := IntWalk.i64_in _ (by omega)
                  go_wp2_with fail
                  go_loopw [16] (fun iv wr => ∃ j : Nat, j ≤ P.length ∧ iv = .int .i64 ((j : Int) - 1) ∧ Hid (OwnV 3 w.heap.size wr gx P.length (is (bxT P.length m k j))) ∧ Hid (∀ i, j ≤ i → i < P.length → (bxR P.length m k).getD i 0 = m) ∧ Hid (Chg (fun k => k = gx) w1 wr) ∧ Hid (MatO w1.heap.size wr u11 (bxL M r P.length m (k + 1)))) (fun iv _ => (intOf iv + 1).toNat)
                  case atStart => exact ⟨P.length, Nat.le_refl _, by go_num, Lib.hid (by rw [bxT_all]; exact HX.out), Lib.hid (fun i h1 h2 => by omega), HC, HM⟩
                  case round =>
                    clear HM HX HC
                    obtain ⟨j, hj, rfl, HX, HK, HC, HM⟩ := hrel
                    generalize wr = Z2 at *
                    rcases Nat.eq_zero_or_pos j with hj0 | hj0
                    · subst hj0
                      have Hdn := Lib.hid (bxR_done (n := P.length) (m := m) (k := k) (fun i hi => HK.out i (Nat.zero_le _) hi) (by rw [← Hnp.out, ← HT.out]; exact hk))
                      rw [show (((0 : Nat) : Int) - 1) = -1 from rfl]
                      have eF : Ext w Z2 := HC.out.ext e3 (by rintro q rfl; omega)
                      have hw1s := e3.size
                      have Hres := Lib.hid (show BxPost w P.length M r m (.returned (.tuple #[u11, .int .i64 0])) Z2 from ⟨eF, .inr ⟨Hzero.out, _, rfl, by rw [Int.toNat_natCast, ← Hdn.out]; exact HM.out.mono hw1s⟩⟩)
                      clear HX HK HC HM
                      go_wp2_with fail
                      go_ret2
                      exact Hres.out
                    · obtain ⟨i, rfl⟩ : ∃ i, j = i + 1 := ⟨j - 1, by omega⟩
                      rw [show (((i + 1 : Nat) : Int) - 1) = (i : Int) by omega]
                      have hi0 : ¬ (i : Int) < 0 := by omega
                      have hi1 : (0 : Int) ≤ (i : Int) := by omega
                      have hip : (i : Int) < (P.length : Int) := by omega
                      obtain ⟨d, hd⟩ : ∃ d, d = (bxR P.length m k).getD i 0 := ⟨_, rfl⟩
                      have hcl := HX.out.cell (j := i) (by rw [is_length, bxT_length hj]; omega)
                      have fr := HX.out.frozen i
                      have hce : (is (bxT P.length m k (i + 1)))[i]'(by rw [is_length, bxT_length hj]; omega) = .int .i64 d := by
                        simp only [is, List.getElem_map]
                        have := bxT_get (n := P.length) (m := m) (k := k) hj0 hj
                        simp only [Nat.add_sub_cancel] at this
                        rw [this, hd]
                      rw [hce] at hcl
                      have hdb : -(m : Int) ≤ d ∧ d ≤ m := by
                        rw [hd, getD_get (show i < (bxR P.length m k).length by simp; omega)]
                        exact bxR_b _ _ _ _ (List.getElem_mem _)
                      by_cases hdm : d = m
                      · have Hpr := Lib.hid (bxT_pred (n := P.length) (m := m) (k := k) hj0 hj)
                        obtain ⟨HX2, hG2⟩ := HX.out.set i (.int .i64 (-(m : Int)))
                        rw [← is_set] at HX2
                        have e1 := Hpr.out
                        rw [Nat.add_sub_cancel] at e1
                        rw [e1] at HX2
                        have HX3 := Lib.hid HX2
                        have HK3 := Lib.hid (show ∀ t, i ≤ t → t < P.length → (bxR P.length m k).getD t 0 = m from fun t h1 h2 => by
                          rcases Nat.lt_or_ge i t with h | h
                          · exact HK.out t h h2
                          · obtain rfl : t = i := by omega
                            rw [← hd]; exact hdm)
                        have HC3 := Lib.hid (HC.out.trans (Chg.of_grown hG2 rfl))
                        have HM3 := Lib.hid (HM.out.below hG2 gxl)
                        have hwi : IntKind.i64.wrap ((i : Int) - 1) = (i : Int) - 1 := IntWalk.i64_in _ (by omega)
                        rw [hdm] at hcl
                        clear HX2 hG2 HX HK HC HM e1 hd hdm hce hdb
                        go_wp2_with fail
                        go_roundw
                        case rel => exact ⟨i, by omega, by go_num, HX3, HK3, HC3, HM3⟩
                        case measure => simp [intOf] <;> omega
                      · have hdmb : (d == (m : Int)) = false := beq_eq_false_iff_ne.2 hdm
                        have hbs := bxR_step (n := P.length) (m := m) (k := k) hj0 hj (fun t h1 h2 => HK.out t h1 h2) (by rw [Nat.add_sub_cancel, ← hd]; exact hdm) (by rw [← Hnp.out, ← HT.out]; exact hk)
                        rw [Nat.add_sub_cancel, ← hd, ← Hnp.out, ← HT.out] at hbs
                        obtain ⟨hb1, hb2⟩ := hbs
                        have hwd : IntKind.i64.wrap (d + 1) = d + 1 := IntWalk.i64_in _ (by omega)
                        obtain ⟨HX2, hG2⟩ := HX.out.set i (.int .i64 (d + 1))
                        have e1 := bxT_set (n := P.length) (m := m) (k := k) hj0 hj (d + 1)
                        rw [Nat.add_sub_cancel] at e1
                        rw [Hnp.out] at hb1
                        rw [← is_set, e1, ← hb1] at HX2
                        have HX3 := Lib.hid HX2
                        have HC3 := Lib.hid (HC.out.trans (Chg.of_grown hG2 rfl))
                        have HM3 := Lib.hid (HM.out.below hG2 gxl)
                        clear HX2 hG2 HX HK HC HM e1 hb1 hd hce
                        go_wp2_with fail
                        go_roundg (Tt - (k + 1))
                        case measure => omega
                        case rel => exact ⟨k + 1, hb2, rfl, rfl, rfl, HM3, HX3, HC3⟩
                · exact absurd Hbk.out k1
  · have h2 : (c0 == 0) = false := beq_eq_false_iff_ne.2 hb
    have h3 : (c0 != 0) = true := by simp [bne, h2]
    have Hres := Lib.hid (show ∀ W, Ext w W → BxPost w P.length M r most (.returned (.tuple #[.slice none 0 0, .int .i64 c0])) W from fun W hW => by
      have he : bxE P.length M r most = c0 := by unfold bxE; rw [← Hc0.out, if_neg hb]
      exact ⟨hW, .inl ⟨by rw [he]; exact hb, by rw [he]⟩⟩)
    clear hc0 hnp hml h hx hL
    go_enter Tryz.func13, Tryz.ntmps13
    go_wp2_with fail
    refine (hck.out _ hX).mono ?_
    rintro e X ⟨rfl, hE1⟩
    have y2 := hE1.cell x2
    have e1 := hX.trans hE1
    go_wp2_with fail
    refine (hsz.out _ e1).mono ?_
    rintro e X2 ⟨rfl, hE2⟩
    have e2 := e1.trans hE2
    go_wp2_with fail
    go_ret2
    exact Hres.out _ e2
end Go.Proofs.YtkjnjmihfonilaaGreatDoor
