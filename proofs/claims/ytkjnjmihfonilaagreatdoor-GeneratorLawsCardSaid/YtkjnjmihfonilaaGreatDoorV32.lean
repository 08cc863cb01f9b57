/- Part 32 of the proof of the claim: contracts of the functions that it reaches, and plain laws; no condition. -/
import Derived.Test.YtkjnjmihfonilaaGreatDoorV31
import Derived.Test.YtkjnjmihfonilaaGreatDoorV28
import Derived.BigFrame
import Derived.BigQuiet
namespace Go.Proofs.YtkjnjmihfonilaaGreatDoor
open Go.RowKit Go.Sort
def BoxP (B : Nat) (L : Mx) (e : Ending) (w' : World) : Prop := ∃ v, e = .returned v ∧ MatO B w' v L
theorem sumZ_b {f : Nat → Int} {c : Int} (hc : 0 ≤ c) (h : ∀ i, -c ≤ f i ∧ f i ≤ c) : ∀ n, -(c * n) ≤ sumZ f n ∧ sumZ f n ≤ c * n
  | 0 => by simp [sumZ]
  | n + 1 => by
    have ih := sumZ_b hc h n
    have h1 := h n
    have e : c * ((n + 1 : Nat) : Int) = c * n + c := by rw [Int.natCast_succ, Int.mul_add, Int.mul_one]
    rw [sumZ, e]
    omega
theorem getD_bc {l : List Int} {c : Int} (hc : 0 ≤ c) (h : ∀ z ∈ l, -c ≤ z ∧ z ≤ c) (t : Nat) : -c ≤ l.getD t 0 ∧ l.getD t 0 ≤ c := by
  rcases Nat.lt_or_ge t l.length with h1 | h1
  · rw [getD_get h1]; exact h _ (List.getElem_mem h1)
  · rw [List.getD_eq_getElem?_getD, List.getElem?_eq_none h1]
    show -c ≤ (0 : Int) ∧ (0 : Int) ≤ c
    omega
theorem mul_b3 {a b : Int} (ha : -3 ≤ a ∧ a ≤ 3) (hb : -1000000000 ≤ b ∧ b ≤ 1000000000) : -3000000000 ≤ a * b ∧ a * b ≤ 3000000000 := by
  have h : a = -3 ∨ a = -2 ∨ a = -1 ∨ a = 0 ∨ a = 1 ∨ a = 2 ∨ a = 3 := by omega
  rcases h with rfl | rfl | rfl | rfl | rfl | rfl | rfl <;> omega
set_option maxRecDepth 100000 in
set_option maxHeartbeats 8000000 in
theorem box20_any {w : World} {P : List Int} {C M : Mx} {sp : Option Addr} {cp : Nat} {sc : Option Addr} {lc cc : Nat} {sm : Option Addr} {lm cm : Nat} {sx : Option Addr} {n cx : Nat} {r : List Int} {m : Nat} (h : TmV w P C M M sp cp sc lc cc sm lm cm) (hx : RowR w (.slice sx n cx) r) (hlr : r.length = M.length) (hm : m ≤ 3) :
    Calls Tryz.prog 16 #[tmS P sp cp sc lc cc sm lm cm, .slice sx n cx, .int .i64 m] w fun e w' => BoxP w.heap.size (bxL M r P.length m ((2 * m + 1) ^ P.length)) e w' ∧ Ext w w' := by
  have hml : lm = M.length := by obtain ⟨_, _, _, _, _, e, _⟩ := h.hM; injection e
  have hp4 := h.ok.p4
  have hp0 := h.ok.p0
  obtain ⟨psM, hIM⟩ := h.ok.kM.1
  have hM4 : M.length ≤ 4 := by have := isH_len hIM; omega
  have HrM := Lib.hid hIM.rect
  have HsM := Lib.hid h.ok.sM
  have hX := (Ext.refl w).alloc (.cells #[.slice sp P.length cp, .slice sc lc cc, .slice sm lm cm] 34)
  have x0 : (w.alloc (.cells #[.slice sp P.length cp, .slice sc lc cc, .slice sm lm cm] 34)).cell? ⟨w.heap.size, 0, none⟩ = some (.slice sp P.length cp) := by go_simp
  have x1 : (w.alloc (.cells #[.slice sp P.length cp, .slice sc lc cc, .slice sm lm cm] 34)).cell? ⟨w.heap.size, 1, none⟩ = some (.slice sc lc cc) := by go_simp
  have x2 : (w.alloc (.cells #[.slice sp P.length cp, .slice sc lc cc, .slice sm lm cm] 34)).cell? ⟨w.heap.size, 2, none⟩ = some (.slice sm lm cm) := by go_simp
  obtain ⟨sm', gm, om, cm', vs, em, hmc, hvl, hSm, hrm⟩ := h.hM
  injection em with q4 q5 q6
  subst q4 q6 hml
  obtain ⟨sx', gx0, ox, cx', ex, hxc, hSx⟩ := hx
  injection ex with q1 q2 q3
  subst q1 q3 q2
  have HSx := Lib.hid hSx
  have HSm := Lib.hid hSm
  have HVm := Lib.hid hvl
  have HRm := Lib.hid hrm
  have Hlr := Lib.hid hlr
  have hw1 : IntKind.i64.wrap (2 * (m : Int)) = 2 * m := IntWalk.i64_in _ (by omega)
  have hw2 : IntKind.i64.wrap (2 * (m : Int) + 1) = 2 * m + 1 := IntWalk.i64_in _ (by omega)
  obtain ⟨Tt, hT⟩ : ∃ T, T = (2 * m + 1) ^ P.length := ⟨_, rfl⟩
  have HT := Lib.hid hT
  have hpw : ∀ i, i ≤ 4 → (2 * m + 1) ^ i ≤ 2401 := fun i hi => Nat.le_trans (Nat.le_trans (Nat.pow_le_pow_left (show 2 * m + 1 ≤ 7 by omega) i) (Nat.pow_le_pow_right (by omega) hi)) (by decide)
  have hTb : Tt ≤ 2401 := by rw [hT]; exact hpw _ hp4
  have Hpw := Lib.hid hpw
  rw [← hT]
  obtain ⟨i0, hi0, hz0, hz1, hz2⟩ := info_parts Tryz.infoInt
  have Hinfo := Lib.hid (⟨hi0, hz0, hz1, hz2⟩ : _ ∧ _ ∧ _ ∧ _)
  clear h hT hpw hIM hSx hSm hvl hrm hlr hi0 hz0 hz1 hz2 hxc hmc
  go_enter Tryz.func16, Tryz.ntmps16
  go_wp2_with fail
  go_loopw [8, 9] (fun cv iv wr => ∃ i : Nat, i ≤ P.length ∧ iv = .int .i64 i ∧ cv = .int .i64 (((2 * m + 1) ^ i : Nat) : Int) ∧ Ext w wr ∧ Hid (wr = w.alloc (.cells #[.slice sp P.length cp, .slice sc lc cc, .slice sm M.length cm] 34))) (fun _ iv _ => P.length - (intOf iv).toNat)
  case atStart => exact ⟨0, by omega, by go_num, by rw [Nat.pow_zero]; rfl, hX, Lib.hid rfl⟩
  case round =>
    obtain ⟨i, hi, rfl, rfl, hE, HW⟩ := hrel
    have z0 : wr.cell? ⟨w.heap.size, 0, none⟩ = some (.slice sp P.length cp) := by rw [HW.out]; exact x0
    have z1 : wr.cell? ⟨w.heap.size, 1, none⟩ = some (.slice sc lc cc) := by rw [HW.out]; exact x1
    have z2 : wr.cell? ⟨w.heap.size, 2, none⟩ = some (.slice sm M.length cm) := by rw [HW.out]; exact x2
    by_cases hlt : i < P.length
    · have hii : (i : Int) < (P.length : Int) := by omega
      have hst : (2 * m + 1) ^ (i + 1) = (2 * m + 1) ^ i * (2 * m + 1) := Nat.pow_succ _ _
      have hb1 := Hpw.out (i + 1) (by omega)
      rw [hst] at hb1
      obtain ⟨c, hc⟩ : ∃ c, c = (2 * m + 1) ^ i := ⟨_, rfl⟩
      rw [← hc] at hst hb1 ⊢
      have hci : (c : Int) * (2 * (m : Int) + 1) = ((c * (2 * m + 1) : Nat) : Int) := by push_cast; rfl
      have hw4 : IntKind.i64.wrap ((c : Int) * (2 * (m : Int) + 1)) = ((c * (2 * m + 1) : Nat) : Int) := by rw [hci]; exact IntWalk.i64_in _ (by omega)
      have Hst := Lib.hid hst
      clear hc hst hci
      generalize c * (2 * m + 1) = d at *
      go_wp2_with fail
      go_roundw
      case rel => exact ⟨i + 1, by omega, by go_num, by rw [Hst.out], hE, HW⟩
      case measure => simp [intOf] <;> omega
    · obtain rfl : i = P.length := by omega
      rw [← HT.out]
      generalize wr = X at *
      clear hi hlt HW x0 x1 x2 hX
      go_wp2_with fail
      go_loopw [10, 11, 12, 13, 14, 15, 16, 17, 18] (fun ov kv yv rv iv fv qv sv jv wr => ∃ k : Nat, k ≤ Tt ∧ kv = .int .i64 k ∧ Hid (MatO X.heap.size wr ov (bxL M r P.length m k)) ∧ Ext X wr) (fun _ kv _ _ _ _ _ _ _ _ => Tt - (intOf kv).toNat)
      case atStart => exact ⟨0, by omega, by go_num, Lib.hid (MatO.nil _ _), Ext.refl _⟩
      case round =>
        obtain ⟨k, hk, rfl, HM, hF⟩ := hrel
        generalize wr = Y at *
        have y0 := hF.cell z0
        have y1 := hF.cell z1
        have y2 := hF.cell z2
        by_cases hkt : k < Tt
        · have hkI : (k : Int) < (Tt : Int) := by omega
          have eY := hE.trans hF
          have hYs := hF.size
          go_wp2_with (at_make; refine wpList_make_full _ rfl _ _ 26 rfl Y.heap.size 3 i0 (.int .i64 0) 1 Tryz.underlying26 Hinfo.out.1 Hinfo.out.2.1 Hinfo.out.2.2.1 .i64 .i64 _ _ P.length rfl rfl (by omega) (by omega) (by rw [Hinfo.out.2.2.2]; omega) (by unfold maxLen; omega) (Nat.le_refl _) ?_; intro w1 hown1 hgrow1; have hG := ext_grown hgrow1; have HG := Lib.hid hG)
          have HO1 := Lib.hid (show OwnV 3 Y.heap.size w1 Y.heap.size P.length (is (bxW P.length m k P.length)) from by
            have := row_ownV (zero_row hown1) (by simp)
            rw [bxW_all]; simpa using this)
          have y0 := hG.cell y0
          have y1 := hG.cell y1
          have y2 := hG.cell y2
          have e1 := hF.trans hG
          clear hown1 hgrow1 hG
          go_wp2_with fail
          go_loopw [13, 14] (fun rv iv wr => ∃ j : Nat, j ≤ P.length ∧ iv = .int .i64 ((j : Int) - 1) ∧ rv = .int .i64 ((k / (2 * m + 1) ^ (P.length - j) : Nat) : Int) ∧ Hid (OwnV 3 Y.heap.size wr Y.heap.size P.length (is (bxW P.length m k j))) ∧ Hid (Chg (fun q => q = Y.heap.size) w1 wr)) (fun _ iv _ => (intOf iv + 1).toNat)
          case atStart => exact ⟨P.length, by omega, by first | go_num | rfl, by rw [Nat.sub_self, Nat.pow_zero, Nat.div_one], HO1, Lib.hid (Chg.refl _ _)⟩
          case round =>
            clear HO1
            obtain ⟨j, hj, rfl, rfl, HO, HC⟩ := hrel
            generalize wr = Z at *
            by_cases hj0 : 0 < j
            · obtain ⟨j, rfl⟩ : ∃ i, j = i + 1 := ⟨j - 1, by omega⟩
              have hjI : (0 : Int) ≤ ((j + 1 : Nat) : Int) - 1 := by omega
              have hjn : ((j + 1 : Nat) : Int) - 1 = (j : Int) := by omega
              rw [hjn] at hjI ⊢
              have hjp : (j : Int) < (P.length : Int) := by omega
              have hcl := HO.out.cell (j := j) (by rw [is_length, bxW_length hj]; omega)
              have fr := HO.out.frozen j
              have hset := bxW_set (n := P.length) (m := m) (k := k) (j := j) hj
              have hrest := box_rest (2 * m + 1) P.length k j hj
              have hjl : j ≤ P.length := by omega
              obtain ⟨R, hR⟩ : ∃ R, R = k / (2 * m + 1) ^ (P.length - (j + 1)) := ⟨_, rfl⟩
              rw [← hR] at hset hrest ⊢
              obtain ⟨dg, hdg⟩ : ∃ d, d = R % (2 * m + 1) := ⟨_, rfl⟩
              have hdl : dg < 2 * m + 1 := by rw [hdg]; exact Nat.mod_lt _ (by omega)
              rw [← hdg] at hset
              have hrm : (R : Int).tmod (2 * (m : Int) + 1) = dg := by
                rw [hdg, Int.natCast_emod, Int.tmod_eq_emod_of_nonneg (by omega)]; push_cast; rfl
              obtain ⟨R2, hR2⟩ : ∃ R2, R2 = k / (2 * m + 1) ^ (P.length - j) := ⟨_, rfl⟩
              have hR2b : R2 ≤ 2401 := by rw [hR2]; exact Nat.le_trans (Nat.div_le_self _ _) (by omega)
              have hqt : (R : Int).tdiv (2 * (m : Int) + 1) = (R2 : Int) := by
                rw [hR2, ← hrest, Int.natCast_ediv, Int.tdiv_eq_ediv_of_nonneg (by omega)]; push_cast; rfl
              have hRb : R ≤ 2401 := by rw [hR]; exact Nat.le_trans (Nat.div_le_self _ _) (by omega)
              have hws : IntKind.i64.wrap ((dg : Int) - m) = dg - m := IntWalk.i64_in _ (by omega)
              have hnz : ¬ (2 * (m : Int) + 1) = 0 := by omega
              obtain ⟨HO2, hG2⟩ := HO.out.set j (.int .i64 ((dg : Int) - m))
              rw [← is_set, hset] at HO2
              have HO3 := Lib.hid HO2
              have HC3 := Lib.hid (HC.out.trans (Chg.of_grown hG2 rfl))
              obtain ⟨cv, hcv⟩ : ∃ cv, cv = (is (bxW P.length m k (j + 1)))[j]'(by rw [is_length, bxW_length hj]; omega) := ⟨_, rfl⟩
              rw [← hcv] at hcl
              have HR2 := Lib.hid hR2
              clear hcv HO2 hG2 HO HC hset hrest hR hdg hR2
              go_wp2_with fail
              go_roundw
              case rel => exact ⟨j, hjl, by first | go_num | rfl, by rw [← HR2.out], HO3, HC3⟩
              case measure => simp [intOf] <;> omega
            · obtain rfl : j = 0 := by omega
              have eZ : Ext Y Z := HC.out.ext HG.out (by rintro q rfl; exact Nat.le_refl _)
              have HX := Lib.hid (show OwnV 3 Y.heap.size Z Y.heap.size P.length (is (bxR P.length m k)) from by have := HO.out; rw [bxW_zero] at this; exact this)
              replace y0 := eZ.cell (hF.cell z0)
              replace y1 := eZ.cell (hF.cell z1)
              replace y2 := eZ.cell (hF.cell z2)
              obtain ⟨y, hy⟩ : ∃ y, y = bxR P.length m k := ⟨_, rfl⟩
              have hyl : y.length = P.length := by rw [hy]; exact bxR_length _ _ _
              have hyb : ∀ z ∈ y, -3 ≤ z ∧ z ≤ 3 := fun z hz => by
                rw [hy] at hz
                have := bxR_b P.length m k z hz
                omega
              rw [← hy] at HX
              have Hy := Lib.hid hy
              have Hyl := Lib.hid hyl
              have Hyb := Lib.hid hyb
              have eW := eY.trans eZ
              clear HO HC hy hyl hyb hj
              go_wp2_with fail
              go_loopw [15, 16, 17, 18] (fun fv qv sv jv wr => ∃ q : Nat, q ≤ M.length ∧ qv = .int .i64 q ∧ ((fv = .bool true ∧ Hid (∀ t, t < q → tmpE y (M.getD t []) = r.getD t 0)) ∨ (fv = .bool false ∧ Hid (tmpL M y ≠ r))) ∧ Ext Z wr) (fun _ qv _ _ _ => M.length - (intOf qv).toNat)
              case atStart => exact ⟨0, by omega, by go_num, .inl ⟨rfl, Lib.hid (fun t h => by omega)⟩, Ext.refl _⟩
              case round =>
                obtain ⟨q, hq, rfl, hfv, hE4⟩ := hrel
                generalize wr = U at *
                replace y0 := hE4.cell y0
                replace y1 := hE4.cell y1
                replace y2 := hE4.cell y2
                have eU := eW.trans hE4
                by_cases hqt : q < M.length
                · have hqI : (q : Int) < (M.length : Int) := by omega
                  rcases hfv with ⟨rfl, HK⟩ | ⟨rfl, HK⟩
                  · obtain ⟨s1, br, or, cr, hrow, hrc, hSr⟩ := MatR.row HSm.out HVm.out HRm.out hqt
                    obtain rfl := HSm.out.addr (by rw [HVm.out]; omega)
                    have hlq : M[q].length = P.length := HrM.out _ (List.getElem_mem hqt)
                    obtain rfl := hSr.addr (by simp; omega)
                    rw [hlq] at hrow hrc
                    have hrowU := eU.cell hrow
                    have hqr : q < r.length := by rw [Hlr.out]; exact hqt
                    obtain ⟨rq, hrq⟩ : ∃ z, z = r[q] := ⟨_, rfl⟩
                    have hcr := eU.cell (HSx.out.cell q (.int .i64 rq) (by rw [hrq]; exact is_get hqr))
                    obtain rfl := HSx.out.addr (by simp; omega)
                    have hqrI : (q : Int) < (r.length : Int) := by omega
                    obtain ⟨v, hv⟩ : ∃ v, v = M[q] := ⟨_, rfl⟩
                    have hvl : v.length = P.length := by rw [hv]; exact hlq
                    have hvb : ∀ z ∈ v, -1000000000 ≤ z ∧ z ≤ 1000000000 := fun z hz => HsM.out v (by rw [hv]; exact List.getElem_mem hqt) z hz
                    rw [← hv] at hSr
                    have HSr := Lib.hid hSr
                    have Hv := Lib.hid (show M.getD q [] = v by rw [getD_get hqt, hv])
                    have Hrq := Lib.hid (show r.getD q 0 = rq by rw [getD_get hqr, hrq])
                    have Hvl := Lib.hid hvl
                    have Hvb := Lib.hid hvb
                    clear hSr hrc hrow hlq hv hvl hvb hrq
                    go_wp2_with fail
                    go_loopw [17, 18] (fun sv jv wr => ∃ i : Nat, i ≤ P.length ∧ jv = .int .i64 i ∧ sv = .int .i64 (sumZ (fun t => y.getD t 0 * v.getD t 0) i) ∧ Ext U wr) (fun _ jv _ => P.length - (intOf jv).toNat)
                    case atStart => exact ⟨0, by omega, by go_num, rfl, Ext.refl _⟩
                    case round =>
                      obtain ⟨i, hi, rfl, rfl, hE5⟩ := hrel
                      generalize wr = V at *
                      have z0' := hE5.cell y0
                      have z1' := hE5.cell y1
                      have z2' := hE5.cell y2
                      have hrV := hE5.cell hrowU
                      by_cases hip : i < P.length
                      · have hiI : (i : Int) < (P.length : Int) := by omega
                        have hiy : i < y.length := by rw [Hyl.out]; exact hip
                        have hiv : i < v.length := by rw [Hvl.out]; exact hip
                        obtain ⟨ya, hya⟩ : ∃ z, z = y[i] := ⟨_, rfl⟩
                        obtain ⟨va, hva⟩ : ∃ z, z = v[i] := ⟨_, rfl⟩
                        have b1 := Hyb.out _ (List.getElem_mem hiy)
                        have b2 := Hvb.out _ (List.getElem_mem hiv)
                        rw [← hya] at b1
                        rw [← hva] at b2
                        have c1 := hE5.cell (hE4.cell (show Z.cell? ⟨Y.heap.size, i, none⟩ = some (.int .i64 ya) by
                          have := HX.out.cell (j := i) (by rw [is_length]; exact hiy)
                          rw [this, hya]; simp [is]))
                        have c2 := hE5.cell (eU.cell (HSr.out.cell i (.int .i64 va) (by rw [hva]; exact is_get hiv)))
                        have hf : ∀ t, -3000000000 ≤ (fun t => y.getD t 0 * v.getD t 0) t ∧ (fun t => y.getD t 0 * v.getD t 0) t ≤ 3000000000 := fun t => mul_b3 (getD_bc (by omega) Hyb.out t) (getD_bc (by omega) Hvb.out t)
                        have hsb := sumZ_b (c := 3000000000) (by omega) hf i
                        have Hsn := Lib.hid (show sumZ (fun t => y.getD t 0 * v.getD t 0) (i + 1) = sumZ (fun t => y.getD t 0 * v.getD t 0) i + va * ya by rw [sumZ, getD_get hiy, getD_get hiv, ← hya, ← hva, Int.mul_comm])
                        obtain ⟨sz, hsz⟩ : ∃ s, s = sumZ (fun t => y.getD t 0 * v.getD t 0) i := ⟨_, rfl⟩
                        rw [← hsz] at hsb Hsn ⊢
                        obtain ⟨pr, hpr⟩ : ∃ pr, pr = va * ya := ⟨_, rfl⟩
                        have hpb : -3000000000 ≤ pr ∧ pr ≤ 3000000000 := by rw [hpr, Int.mul_comm]; exact mul_b3 b1 b2
                        have hvy : va * ya = pr := hpr.symm
                        rw [hvy] at Hsn
                        have hwp : IntKind.i64.wrap pr = pr := IntWalk.i64_in _ (by omega)
                        have hws2 : IntKind.i64.wrap (sz + pr) = sz + pr := IntWalk.i64_in _ (by omega)
                        clear hya hva hsz hpr hf b1 b2
                        go_wp2_with fail
                        go_quiet (fail)
                        go_wp2_with fail
                        go_roundw
                        case rel => exact ⟨i + 1, by omega, by go_num, by rw [Hsn.out], hE5.drewN _⟩
                        case measure => simp [intOf] <;> omega
                      · obtain rfl : i = P.length := by omega
                        have hte : sumZ (fun t => y.getD t 0 * v.getD t 0) P.length = tmpE y v := by unfold tmpE; rw [Hyl.out]
                        rw [hte]
                        obtain ⟨tt, htt⟩ : ∃ t, t = tmpE y v := ⟨_, rfl⟩
                        rw [← htt]
                        have Htt := Lib.hid (show tmpE y (M.getD q []) = tt by rw [Hv.out, htt])
                        have hcrV := hE5.cell hcr
                        clear hte htt hi hip
                        by_cases heq : tt = rq
                        · subst heq
                          have Hk := Lib.hid (show ∀ t, t < q + 1 → tmpE y (M.getD t []) = r.getD t 0 from fun t ht => by
                            by_cases e : t = q
                            · subst e; rw [Htt.out, Hrq.out]
                            · exact HK.out t (by omega))
                          go_wp2_with fail
                          go_roundw
                          case rel => exact ⟨q + 1, by omega, by go_num, .inl ⟨rfl, Hk⟩, hE4.trans hE5⟩
                          case measure => simp [intOf] <;> omega
                        · have hbq : (tt == rq) = false := beq_eq_false_iff_ne.2 heq
                          have Hk := Lib.hid (show tmpL M y ≠ r from fun e => heq (by
                            rw [← Htt.out, ← Hrq.out, ← e, getD_get (show q < (tmpL M y).length by rw [tmpL_length]; exact hqt), getD_get hqt]
                            simp [tmpL]))
                          go_wp2_with fail
                          go_roundw
                          case rel => exact ⟨q + 1, by omega, by go_num, .inr ⟨rfl, Hk⟩, hE4.trans hE5⟩
                          case measure => simp [intOf] <;> omega
                  · skip
                    have Hno := Lib.hid (show bxL M r P.length m (k + 1) = bxL M r P.length m k from bxL_no (by rw [← Hy.out]; exact HK.out))
                    have HMu := Lib.hid (HM.out.ext (eZ.trans hE4))
                    have eF := hF.trans (eZ.trans hE4)
                    clear HK HX
                    go_wp2_with fail
                    go_roundw
                    case rel => exact ⟨k + 1, by omega, by go_num, Lib.hid (by rw [Hno.out]; exact HMu.out), eF⟩
                    case measure => simp [intOf] <;> omega
                · obtain rfl : q = M.length := by omega
                  rcases hfv with ⟨rfl, HK⟩ | ⟨rfl, HK⟩
                  · have hall : tmpL M y = r := List.ext_getElem (by rw [tmpL_length, Hlr.out]) (fun t h1 h2 => by
                      have h3 : t < M.length := by rw [tmpL_length] at h1; exact h1
                      have := HK.out t h3
                      rw [getD_get h3, getD_get h2] at this
                      rw [← this]; simp [tmpL])
                    have Hyes := Lib.hid (show bxL M r P.length m (k + 1) = bxL M r P.length m k ++ [y] by rw [Hy.out]; exact bxL_yes (by rw [← Hy.out]; exact hall))
                    have HMu := Lib.hid (HM.out.ext (eZ.trans hE4))
                    have hRv : RowV X.heap.size U (slv Y.heap.size P.length P.length) y := by
                      have h := OwnV.mono (HX.out.ext hE4) hYs
                      unfold OwnV at h
                      rw [is_length, Hyl.out] at h
                      unfold RowV
                      rw [Hyl.out]; exact h
                    have HRv := Lib.hid hRv
                    have eF := hF.trans (eZ.trans hE4)
                    have hbl := bxL_len M r P.length m k
                    have hUs := eF.size
                    clear HK HX hRv hall
                    go_wp2_with (at_builtin; refine app_lrow rfl _ _ 31 Tryz.underlying31 rfl rfl (HMu.out.ext ((Ext.refl _).alloc (.cells #[slv Y.heap.size P.length P.length] 26))) (b := U.heap.size) (rv := slv Y.heap.size P.length P.length) (r := y) rfl (by go_simp) (HRv.out.ext ((Ext.refl _).alloc _)) (by omega) (by simp; omega) ?_; intro g9 cap9 w9 hO9 hB9 hG9; rw [← Hyes.out] at hO9; have HO9 := Lib.hid hO9; have e9 : Ext X w9 := Below.trans (eF.alloc _) hB9; clear hO9 hB9 hG9)
                    go_roundw
                    case rel => exact ⟨k + 1, by omega, by go_num, HO9, e9⟩
                    case measure => simp [intOf] <;> omega
                  · skip
                    have Hno := Lib.hid (show bxL M r P.length m (k + 1) = bxL M r P.length m k from bxL_no (by rw [← Hy.out]; exact HK.out))
                    have HMu := Lib.hid (HM.out.ext (eZ.trans hE4))
                    have eF := hF.trans (eZ.trans hE4)
                    clear HK HX
                    go_wp2_with fail
                    go_roundw
                    case rel => exact ⟨k + 1, by omega, by go_num, Lib.hid (by rw [Hno.out]; exact HMu.out), eF⟩
                    case measure => simp [intOf] <;> omega
        · obtain rfl : k = Tt := by omega
          have Hres := Lib.hid (show BoxP w.heap.size (bxL M r P.length m k) (.returned _) Y from ⟨_, rfl, HM.out.mono hE.size⟩)
          have eF := hE.trans hF
          go_wp2_with fail
          go_ret
          exact ⟨Hres.out, eF⟩
end Go.Proofs.YtkjnjmihfonilaaGreatDoor
