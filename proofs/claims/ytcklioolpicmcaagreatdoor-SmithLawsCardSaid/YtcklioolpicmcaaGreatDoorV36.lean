/- Part 36 of the proof of the claim: contracts of the functions that it reaches, and plain laws; no condition. -/
import Derived.Test.YtcklioolpicmcaaGreatDoorV35
import Derived.BigQuiet
import Derived.Test.YtcklioolpicmcaaGreatDoorV08
import Derived.Test.YtcklioolpicmcaaGreatDoorV14
import Derived.Test.YtcklioolpicmcaaGreatDoorRows
import Derived.ProofKit
import Derived.LaidMore
import Derived.OpenShut
import Derived.Stop.Joined
import Derived.Stop.LaidErr
import Derived.Lib.LaidTab
import Derived.Deep.Matrix
import Derived.Test.YtcklioolpicmcaaGreatDoorV21
/- schismalaw08: SmithLaws, the walk -/
namespace Go.Proofs.YtcklioolpicmcaaGreatDoor
open Go.RowKit Go.Sort
theorem MatX.shape {B : Nat} {w : World} {v : Value} {n : Nat} {F : Mx} {ad : List (Nat × Nat)} (h : MatX B w v n F ad) (h0 : 0 < F.length) : ∃ g cap, v = slv g F.length cap ∧ B ≤ g ∧ g < w.heap.size := by
  rcases h.own.2 with ⟨_, h1⟩ | ⟨g, cap, cur, rfl, hb, hg, _⟩
  · omega
  · exact ⟨g, cap, rfl, hb, (World.ownsRow.lt h.own g rfl).2⟩
theorem MatX.el {B : Nat} {w : World} {g cap n L : Nat} {F : Mx} {ad : List (Nat × Nat)} (h : MatX B w (slv g L cap) n F ad) (hL : L = F.length) {r k : Nat} (hr : r < F.length) (hk : k < n) :
    ∃ g1 c1, w.cell? ⟨g, r, none⟩ = some (slv g1 n c1) ∧ w.cell? ⟨g1, k, none⟩ = some (.int .i64 (eM F r k)) := by
  have hA : r < ad.length := by rw [h.len]; exact hr
  refine ⟨_, _, h.hd hL hA, ?_⟩
  have hl : F[r].length = n := h.rect _ (List.getElem_mem hr)
  have h1 := (h.row r hr hA).cell (j := k) (by rw [is_length, hl]; exact hk)
  rw [h1]
  unfold eM
  rw [getD_get hr, getD_get (by omega)]
  simp [is]
theorem RowV.kept {B : Nat} {w w' : World} {v : Value} {r : List Int} {q : Nat} (h : RowV B w v r) (hG : w.grownBy w' (some q)) (hq : q < B) : RowV B w' v r := by
  refine World.ownsRow.kept h hG ?_
  cases hu : v.ownBlock with
  | none => exact .inl rfl
  | some g =>
    right
    intro e
    injection e with e
    have := (World.ownsRow.lt h g hu).1
    omega
set_option maxRecDepth 100000 in
set_option maxHeartbeats 8000000 in
theorem ls_walk {w : World} {R C : Nat} {e0 e1 e2 e3 e4 e5 e6 e7 e8 n1 n2 : Int} (hG : ShapeV #[.int .u8 R, .int .u8 C, .int .i8 e0, .int .i8 e1, .int .i8 e2, .int .i8 e3, .int .i8 e4, .int .i8 e5, .int .i8 e6, .int .i8 e7, .int .i8 e8] R C [e0, e1, e2, e3, e4, e5, e6, e7, e8])
    (hn1 : 0 ≤ n1 ∧ n1 ≤ 255) (hn2 : 0 ≤ n2 ∧ n2 ≤ 255) (hL : Laid w) :
    Calls Tryz.prog 7 #[.agg #[.int .u8 R, .int .u8 C, .int .i8 e0, .int .i8 e1, .int .i8 e2, .int .i8 e3, .int .i8 e4, .int .i8 e5, .int .i8 e6, .int .i8 e7, .int .i8 e8], .int .u8 n1, .int .u8 n2] w fun e w' => e = .returned (.bool true) ∧ Ext w w' := by
  have HL := Lib.hid hL
  obtain ⟨M, hMd⟩ : ∃ M, M = shM [e0, e1, e2, e3, e4, e5, e6, e7, e8] (C % 4) (R % 4) := ⟨_, rfl⟩
  have hmk := Lib.hid (fun W => Make08X_any (w := W) hG)
  rw [← hMd] at hmk
  have hSm : SmM M := by rw [hMd]; exact sh_small _ _ _
  obtain ⟨N, hN⟩ : ∃ N, N = R % 4 := ⟨_, rfl⟩
  obtain ⟨c, hc⟩ : ∃ c, c = C % 4 := ⟨_, rfl⟩
  have hMl : M.length = N := by rw [hMd, shM_length, hN]
  have hMR : Rect c M := by rw [hMd, hc]; exact shM_rect _ _ _
  have hN3 : N ≤ 3 := by omega
  have hc3 : c ≤ 3 := by omega
  rw [← hc] at hmk
  have HSm := Lib.hid hSm
  have HMl := Lib.hid hMl
  have HMR := Lib.hid hMR
  clear hG hL hMd hSm hMl hMR hN hc
  go_enter Tryz.func7, Tryz.ntmps7
  have hX : Ext w (w.alloc (.cells #[.int .u8 R, .int .u8 C, .int .i8 e0, .int .i8 e1, .int .i8 e2, .int .i8 e3, .int .i8 e4, .int .i8 e5, .int .i8 e6, .int .i8 e7, .int .i8 e8] 25)) := (Ext.refl w).alloc _
  go_wp2_with fail
  refine (known08_any (HL.out.ext hX)).mono ?_
  rintro e w1 ⟨rfl, hE1⟩
  have s0 : w1.cell? ⟨w.heap.size, 0, none⟩ = some (.int .u8 R) := hE1.cell (by go_simp)
  have s1 : w1.cell? ⟨w.heap.size, 1, none⟩ = some (.int .u8 C) := hE1.cell (by go_simp)
  have s2 : w1.cell? ⟨w.heap.size, 2, none⟩ = some (.int .i8 e0) := hE1.cell (by go_simp)
  have s3 : w1.cell? ⟨w.heap.size, 3, none⟩ = some (.int .i8 e1) := hE1.cell (by go_simp)
  have s4 : w1.cell? ⟨w.heap.size, 4, none⟩ = some (.int .i8 e2) := hE1.cell (by go_simp)
  have s5 : w1.cell? ⟨w.heap.size, 5, none⟩ = some (.int .i8 e3) := hE1.cell (by go_simp)
  have s6 : w1.cell? ⟨w.heap.size, 6, none⟩ = some (.int .i8 e4) := hE1.cell (by go_simp)
  have s7 : w1.cell? ⟨w.heap.size, 7, none⟩ = some (.int .i8 e5) := hE1.cell (by go_simp)
  have s8 : w1.cell? ⟨w.heap.size, 8, none⟩ = some (.int .i8 e6) := hE1.cell (by go_simp)
  have s9 : w1.cell? ⟨w.heap.size, 9, none⟩ = some (.int .i8 e7) := hE1.cell (by go_simp)
  have s10 : w1.cell? ⟨w.heap.size, 10, none⟩ = some (.int .i8 e8) := hE1.cell (by go_simp)
  have hX1 := hX.trans hE1
  clear hX hE1
  go_wp2_with fail
  refine (hmk.out w1).mono ?_
  rintro e w2 ⟨vm, rfl, ⟨ad, hmX⟩, hE2⟩
  have hX2 := hX1.trans hE2
  have hw1 := hX1.size
  clear s0 s1 s2 s3 s4 s5 s6 s7 s8 s9 s10 hE2 hX1 hmk
  by_cases h2 : N < 2
  · have h2I : (N : Int) < 2 := by omega
    have hmR := hmX.mato.mat
    obtain ⟨sm, gm, om, cm, vsm, rfl, _, _, _, _⟩ := id hmR
    rw [HMl.out]
    clear hmX hmR
    go_wp2_with fail
    go_ret
    exact ⟨rfl, hX2⟩
  have h2I : ¬ (N : Int) < 2 := by omega
  obtain ⟨g, cap, rfl, hgB, hgL⟩ := hmX.shape (by rw [HMl.out]; omega)
  have hadl : ad.length = N := by rw [hmX.len, HMl.out]
  obtain ⟨g0, k0, c0⟩ : ∃ g0 k0, w2.cell? ⟨g, 0, none⟩ = some (slv g0 c k0) := ⟨_, _, hmX.hd rfl (i := 0) (by omega)⟩
  rw [HMl.out] at hmX ⊢
  have Hadl := Lib.hid hadl
  have HmX := Lib.hid hmX
  have h0I : (0 : Int) < (N : Int) := by omega
  by_cases hc0 : c = 0
  · subst hc0
    clear hmX hadl
    go_wp2_with fail
    go_ret
    exact ⟨rfl, hX2⟩
  have hcI : ¬ (c : Int) = 0 := by omega
  have hcb : ((c : Int) == 0) = false := beq_eq_false_iff_ne.2 hcI
  have hncM : ncols M = c := ncols_of (by rw [HMl.out]; omega) HMR.out
  have hSF : SmF M := HSm.out.smf (by rw [HMl.out]; omega) (by rw [hncM]; omega)
  have HSF := Lib.hid hSF
  have HncM := Lib.hid hncM
  obtain ⟨m1, rfl⟩ : ∃ m1 : Nat, n1 = (m1 : Int) := ⟨n1.toNat, by omega⟩
  obtain ⟨m2', rfl⟩ : ∃ m2' : Nat, n2 = (m2' : Int) := ⟨n2.toNat, by omega⟩
  have hf := Lib.hid (fun W (hW : Ext w W) (hM : MatR W (slv g N cap) M) => Factors08_any hM hSF (HL.out.ext hW))
  obtain ⟨a, ha⟩ : ∃ a, a = m1 % N := ⟨_, rfl⟩
  obtain ⟨b, hb⟩ : ∃ b, b = m2' % N := ⟨_, rfl⟩
  obtain ⟨d, hd⟩ : ∃ d, d = m1 / 16 := ⟨_, rfl⟩
  have haN : a < N := by rw [ha]; exact Nat.mod_lt _ (by omega)
  have hbN : b < N := by rw [hb]; exact Nat.mod_lt _ (by omega)
  have hdB : d ≤ 15 := by omega
  have t3 : (m1 : Int).tdiv 16 = (d : Int) := by rw [hd]; rfl
  have t4 : (m1 : Int) / 16 = (d : Int) := by rw [hd]; rfl
  have t5 : (m1 : Int) % (N : Int) = (a : Int) := by rw [ha]; rfl
  have t6 : (m2' : Int) % (N : Int) = (b : Int) := by rw [hb]; rfl
  have t1 : (m1 : Int).tmod (N : Int) = (a : Int) := by rw [Int.tmod_eq_emod_of_nonneg (by omega)]; exact t5
  have t2 : (m2' : Int).tmod (N : Int) = (b : Int) := by rw [Int.tmod_eq_emod_of_nonneg (by omega)]; exact t6
  have hNb : ((N : Int) == 0) = false := beq_eq_false_iff_ne.2 (by omega)
  have hN0 : ¬ (N : Int) = 0 := by omega
  clear hmX hadl hncM hSF ha hb hd
  go_wp2_with fail
  go_quiet (fail)
  go_wp2_with fail
  -- rest
  have hdr : Ext w2 (w2.drewN nq) := (Ext.refl w2).drewN nq
  refine (hf.out _ (hX2.trans hdr) (HmX.out.ext hdr).mato.mat).mono ?_
  rintro e w3 ⟨u1, D1, rfl, hu1, hD1, hl1, hE3⟩
  have hX23 := hdr.trans hE3
  have hX3 := hX2.trans hX23
  have HmX3 := Lib.hid (HmX.out.ext hX23)
  obtain ⟨su1, cu1, rfl, _⟩ := hu1.row.len
  have Hu1 := Lib.hid (hu1.mono hdr.size)
  have HD1 := Lib.hid hD1
  have Hl1 := Lib.hid hl1
  have Hg2 := Lib.hid hgL
  have Hw12 := Lib.hid hw1
  have HgB := Lib.hid hgB
  obtain ⟨l1, hl1e⟩ : ∃ l1, l1 = D1.length := ⟨_, rfl⟩
  rw [← hl1e] at Hu1 ⊢
  have Hl1e := Lib.hid hl1e
  have c03 := hX23.cell c0
  have HB23 := Lib.hid hX23.size
  clear hu1 hD1 hl1 hl1e hE3 hdr c0 hX23 hX2 hf hgL hw1 hgB
  generalize hb2 : w2.heap.size = b2 at *
  have Hb2 := Lib.hid hb2
  clear hb2
  go_wp2_with fail
  go_loopw [13, 14, 15, 16] (fun tv kv _ _ wr => ∃ k : Nat, k ≤ c ∧ kv = .int .i64 k ∧ Hid (MatO w3.heap.size wr tv (trT M N k)) ∧ Ext w3 wr) (fun _ kv _ _ _ => c - (intOf kv).toNat)
  case atStart => exact ⟨0, by omega, by go_num, Lib.hid (MatO.nil _ _), Ext.refl _⟩
  case round =>
    obtain ⟨k, hk, rfl, hT, hE⟩ := hrel
    generalize wr = X at *
    have c0X := hE.cell c03
    by_cases hkc : k < c
    · have hki : (k : Int) < (c : Int) := by omega
      obtain ⟨i0, hi, hz0, hz1, hz2⟩ := info_parts Tryz.infoInt
      go_wp2_with (at_make; refine wpList_make_full _ rfl _ _ 32 rfl X.heap.size 3 i0 (.int .i64 0) 1 Tryz.underlying32 hi hz0 hz1 .i64 .i64 _ _ N rfl rfl (by omega) (by omega) (by rw [hz2]; omega) (by unfold maxLen; omega) (Nat.le_refl _) ?_; intro w4 hown4 hgrow4)
      have hEm := ext_grown hgrow4
      obtain ⟨gx, hgx⟩ : ∃ gx, gx = X.heap.size := ⟨_, rfl⟩
      have hb0 : OwnV 3 X.heap.size w4 X.heap.size N (is (List.replicate N 0)) := row_ownV (zero_row hown4) (by simp)
      rw [← hgx] at hb0 ⊢
      have HO1 := Lib.hid hb0
      have hgle : X.heap.size ≤ gx := by omega
      clear hown4 hgrow4 hb0 hgx hi hz0 hz1 hz2 c0X
      go_wp2_with fail
      go_loopw [16] (fun rv wr => ∃ r : Nat, r ≤ N ∧ rv = .int .i64 r ∧ Hid (OwnV 3 gx wr gx N (is (colP M N k r))) ∧ Ext X wr) (fun rv _ => N - (intOf rv).toNat)
      case atStart => exact ⟨0, by omega, by go_num, Lib.hid (by rw [colP_zero]; exact HO1.out.mono (by omega)), hEm⟩
      case round =>
        obtain ⟨r, hr, rfl, hI, hEX⟩ := hrel
        generalize wr = Y at *
        by_cases hrN : r < N
        · have hri : (r : Int) < (N : Int) := by omega
          obtain ⟨g1, k1, d1, d2⟩ := (HmX3.out.ext (hE.trans hEX)).el HMl.out.symm (show r < M.length by rw [HMl.out]; exact hrN) hkc
          obtain ⟨z, hz⟩ : ∃ z, z = eM M r k := ⟨_, rfl⟩
          rw [← hz] at d2
          have hset := colP_set M N k r
          rw [← hz] at hset
          have Hset := Lib.hid hset
          obtain ⟨u, hu⟩ := (show ∃ u, Y.cell? ⟨gx, r, none⟩ = some u from ⟨_, hI.out.cell (j := r) (by rw [is_length, colP_length]; exact hrN)⟩)
          have fz := hI.out.frozen r
          obtain ⟨hO6, hG6⟩ := hI.out.set r (.int .i64 z)
          rw [← is_set, Hset.out] at hO6
          have HO6 := Lib.hid hO6
          have hE6 := Lib.hid (ext_trans_grown hEX hG6 hgle)
          clear hO6 hG6 hz hset
          go_wp2_with fail
          go_roundw
          case rel => exact ⟨r + 1, by omega, by go_num, HO6, hE6.out⟩
          case measure => simp [intOf] <;> omega
        · have hre : r = N := by omega
          have hri : ¬ (r : Int) < (N : Int) := by omega
          have HR := Lib.hid (show RowV w3.heap.size Y (slv gx N N) (colT M k N) by
            have h2 := hI.out
            rw [hre, colP_all] at h2
            exact ownV_row (h2.mono (show w3.heap.size ≤ gx by have := hE.size; omega)) (by simp))
          have HOy := Lib.hid (hT.out.ext hEX)
          have hEY := hE.trans hEX
          have hVY := hEY.size
          have HM9 := Lib.hid (show (trT M N k).length ≤ 1000000000 by rw [trT_length]; omega)
          have hMk := trT_length M N k
          have Hsn := Lib.hid (trT_snoc M N k)
          clear hre hI HO1 hEX hT
          generalize trT M N k = Mi at *
          go_wp2_with (at_builtin; refine app_mat rfl _ _ rfl rfl (HOy.out.ext ((Ext.refl _).alloc _)) rfl (b := Y.heap.size) (by go_simp) (HR.out.ext ((Ext.refl _).alloc _)) HM9.out (by simp; omega) ?_; intro gg cap2 w8 hO8 hB8 hG8; rw [hMk] at hO8 ⊢)
          have hE8 : Ext w3 w8 := Below.trans (hEY.alloc (.cells #[.slice (some ⟨gx, 0, none⟩) N N] 32)) hB8
          rw [Hsn.out] at hO8
          have hO9 := Lib.hid hO8
          clear hG8 hB8 hO8
          go_wp2_with fail
          go_roundw
          case rel => exact ⟨k + 1, by omega, by go_num, hO9, hE8⟩
          case measure => simp [intOf] <;> omega
    · have hke : k = c := by omega
      have hki : ¬ (k : Int) < (c : Int) := by omega
      subst hke
      have hTm := hT.out.mat
      obtain ⟨st, gt, ot, ct, vt, rfl, _, _, _, _⟩ := id hTm
      have HT := Lib.hid hTm
      have hST := smf_tr HSF.out
      rw [HMl.out, HncM.out] at hST
      have HST := Lib.hid hST
      rw [trT_length] at *
      have hXX := hX3.trans hE
      have hft := Lib.hid (Factors08_any HT.out HST.out.1 (HL.out.ext hXX))
      have hXs := hE.size
      clear hTm hST hT
      go_wp2_with fail
      refine hft.out.mono ?_
      rintro e w5 ⟨u2, D2, rfl, hu2, hD2, hl2, hE5⟩
      obtain rfl : D1 = D2 := HD1.out.uni hD2 HST.out.2
      obtain ⟨su2, cu2, rfl, _⟩ := hu2.row.len
      rw [← Hl1e.out] at hu2 ⊢
      have h35 := hE.trans hE5
      have hX5 := hXX.trans hE5
      have HmX5 := Lib.hid (HmX3.out.ext h35)
      have Hb23 := Lib.hid (show b2 ≤ X.heap.size by have := (HB23.out); omega)
      have Hu15 := Lib.hid (Hu1.out.ext h35)
      have Hu25 := Lib.hid (hu2.mono Hb23.out)
      have Hadb := Lib.hid (fun i (hi : i < ad.length) => show w.heap.size ≤ ad[i].1 ∧ ad[i].1 < b2 from ⟨by have := (HmX.out.row i (by rw [HMl.out, ← Hadl.out]; exact hi) hi).lt.1; have := Hw12.out; omega, by have := (HmX.out.row i (by rw [HMl.out, ← Hadl.out]; exact hi) hi).lt.2; have := Hb2.out; omega⟩)
      clear hu2 hD2 hl2 hE5 h35 hft hXX c0X hE hX3 Hu1 HmX3 HT HmX
      by_cases hab : a = b
      · have habI : (a : Int) = (b : Int) := by omega
        have HS1 := Lib.hid (show SmF M ∧ Eqv (eM M) (eM M) ∧ M.length = N from ⟨HSF.out, Eqv.refl _, HMl.out⟩)
        have HmY := HmX5
        have Hu1Y := Hu15
        have Hu2Y := Hu25
        have HXY := Lib.hid hX5
        clear HmX5 Hu15 Hu25 hX5
        generalize w5 = Y5 at *
        obtain ⟨M1, hM1⟩ : ∃ M1, M1 = M := ⟨_, rfl⟩
        rw [← hM1] at HmY HS1
        have HS1 := Lib.hid (show SmF M1 ∧ Eqv (eM M) (eM M1) ∧ M1.length = N by rw [hM1]; exact ⟨HSF.out, Eqv.refl _, HMl.out⟩)
        clear hM1 hab
        have HN1 := Lib.hid HS1.out.2.2
        obtain ⟨p, hp⟩ : ∃ p, p = N - 1 := ⟨_, rfl⟩
        have hpI : (N : Int) - 1 = (p : Int) := by omega
        have hpN : (p : Int) < (N : Int) := by omega
        have hp0 : ¬ (p : Int) < 0 := by omega
        have hp1 : ¬ p = 0 := by omega
        have hp2 : ¬ 0 = p := by omega
        have hA0 : 0 < ad.length := by rw [Hadl.out]; omega
        have hAp : p < ad.length := by rw [Hadl.out]; omega
        have f0 := HmY.out.hd HN1.out.symm hA0
        have fp := HmY.out.hd HN1.out.symm hAp
        obtain ⟨hsw, hgw⟩ := HmY.out.swapR HN1.out.symm hA0 hAp
        have fz0 := (HmY.out.outer HN1.out.symm).frozen 0
        have fzp := (HmY.out.outer HN1.out.symm).frozen p
        obtain ⟨ga9, ka9, hga9⟩ : ∃ ga9 ka9, ad[0] = (ga9, ka9) := ⟨_, _, rfl⟩
        obtain ⟨gb9, kb9, hgb9⟩ : ∃ gb9 kb9, ad[p] = (gb9, kb9) := ⟨_, _, rfl⟩
        rw [hga9] at f0 hsw hgw
        rw [hgb9] at fp hsw hgw
        simp only at f0 fp hsw hgw
        have HSW := Lib.hid (smf_swap HS1.out.1 (i := 0) (j := p) (by rw [HN1.out]; omega) (by rw [HN1.out]; omega))
        have Hsw := Lib.hid hsw
        have Hgw := Lib.hid hgw
        have hgb2 := Hg2.out
        clear hsw hgw hga9 hgb9 hp hA0 hAp
        go_wp2_with fail
        go_region
        have hu1W := (Hu1Y.out.kept Hgw.out hgb2).ext ((Ext.refl _).drew)
        have hu2W := (Hu2Y.out.kept Hgw.out hgb2).ext ((Ext.refl _).drew)
        have hRW := Hsw.out.ext ((Ext.refl _).drew)
        have hXW := (ext_trans_grown HXY.out Hgw.out (by have := Hw12.out; have := HgB.out; omega)).drew
        generalize hW7 : World.drew (World.setCell _ _ _) = W7 at *
        clear hW7 Hsw Hgw f0 fp fz0 fzp HmY Hu1Y Hu2Y HXY
        have hRl : (rowSwap 0 p M1).length = N := by rw [rowSwap_length]; exact HN1.out
        have hfn := Lib.hid (Factors08_any hRW HSW.out.1 (HL.out.ext hXW))
        have Heq := Lib.hid (HS1.out.2.1.trans HSW.out.2)
        have Hu1W := Lib.hid hu1W
        have Hu2W := Lib.hid hu2W
        clear hu1W hu2W hRW hRl
        go_wp2_with fail
        refine hfn.out.mono ?_
        rintro e w8 ⟨u3, D3, rfl, hu3, hD3, hl3, hE8⟩
        obtain rfl : D1 = D3 := HD1.out.uni hD3 Heq.out
        obtain ⟨su3, cu3, rfl, _⟩ := hu3.row.len
        rw [← Hl1e.out] at hu3 ⊢
        have hX8 := hXW.trans hE8
        have H1R := Lib.hid (Hu1W.out.ext hE8).row
        have H2R := Lib.hid (Hu2W.out.ext hE8).row
        have H3R := Lib.hid hu3.row
        clear hu3 hD3 hl3 hE8 hXW hfn Hu1W Hu2W
        go_wp2_with fail
        refine (s08_same H1R.out H2R.out (by have := Hl1.out; omega)).mono ?_
        rintro e w9 ⟨rfl, hE9⟩
        have hX9 := hX8.trans hE9
        have H1S := Lib.hid (H1R.out.ext hE9)
        have H3S := Lib.hid (H3R.out.ext hE9)
        clear hE9 hX8 H1R H2R H3R
        go_wp2_with fail
        refine (s08_same H1S.out H3S.out (by have := Hl1.out; omega)).mono ?_
        rintro e w10 ⟨rfl, hE10⟩
        go_wp2_with fail
        go_ret
        exact ⟨rfl, hX9.trans hE10⟩
      · have habI : ¬ (a : Int) = (b : Int) := by omega
        have habb : ((a : Int) == (b : Int)) = false := beq_eq_false_iff_ne.2 habI
        have haM : a < M.length := by rw [HMl.out]; exact haN
        have hbM : b < M.length := by rw [HMl.out]; exact hbN
        have haA : a < ad.length := by rw [Hadl.out]; exact haN
        have hbA : b < ad.length := by rw [Hadl.out]; exact hbN
        have hba := HmX5.out.hd HMl.out.symm haA
        have hbb := HmX5.out.hd HMl.out.symm hbA
        have hoa := HmX5.out.row a haM haA
        have hob := HmX5.out.row b hbM hbA
        have hne : ad[b].1 ≠ ad[a].1 := by
          rcases Nat.lt_or_gt_of_ne hab with h | h
          · exact Ne.symm (HmX5.out.dis a b haA hbA h)
          · exact HmX5.out.dis b a hbA haA h
        have hga := HmX5.out.ne haA
        have hbd := Hadb.out a haA
        obtain ⟨q, hq⟩ : ∃ q : Int, q = 4 - (d : Int) := ⟨_, rfl⟩
        have hqB : -11 ≤ q ∧ q ≤ 4 := by omega
        have HSM := Lib.hid (smf_mix HSm.out haM hbM hab (by rw [HncM.out]; omega) hqB)
        have HM1 := Lib.hid (show M.set a (subK q M[a] M[b]) = rowSub a b q M by unfold rowSub; rw [getD_get haM, getD_get hbM])
        have hra : M[a].length = k := HMR.out _ (List.getElem_mem haM)
        have hrb : M[b].length = k := HMR.out _ (List.getElem_mem hbM)
        have hel : ∀ j, j < k → -9 ≤ M[a].getD j 0 ∧ M[a].getD j 0 ≤ 9 ∧ -9 ≤ M[b].getD j 0 ∧ M[b].getD j 0 ≤ 9 := fun j _ => by
          have h1 := sm_el HSm.out a j
          have h2 := sm_el HSm.out b j
          unfold eM at h1 h2
          rw [getD_get haM] at h1
          rw [getD_get hbM] at h2
          exact ⟨h1.1, h1.2, h2.1, h2.2⟩
        have Hel := Lib.hid hel
        have Hset := Lib.hid (fun (r' : List Int) W (hO : OwnV 3 w1.heap.size W ad[a].1 ad[a].2 (is r')) (hG : w5.grownBy W (some ad[a].1)) (hr : r'.length = k) => HmX5.out.setRow HMl.out.symm haA hO hG hr)
        obtain ⟨ra, hrae⟩ : ∃ ra, ra = M[a] := ⟨_, rfl⟩
        obtain ⟨rb, hrbe⟩ : ∃ rb, rb = M[b] := ⟨_, rfl⟩
        rw [← hrae] at HM1 hra Hel hoa
        rw [← hrbe] at HM1 hrb Hel hob
        obtain ⟨ga, ka, hgak⟩ : ∃ ga ka, ad[a] = (ga, ka) := ⟨_, _, rfl⟩
        obtain ⟨gb, kb, hgbk⟩ : ∃ gb kb, ad[b] = (gb, kb) := ⟨_, _, rfl⟩
        rw [hgak] at hba hoa hne hga hbd Hset
        rw [hgbk] at hbb hob hne
        simp only at hba hbb hoa hob hne hga hbd Hset
        have Hra := Lib.hid hra
        have Hrb := Lib.hid hrb
        have Hoa := Lib.hid hoa
        have Hob := Lib.hid hob
        have Hbd := Lib.hid hbd
        have hXs5 := Lib.hid hX5
        have Hq := Lib.hid hq
        have HqB := Lib.hid hqB
        clear hra hrb hoa hob hel hrae hrbe hgak hgbk hbd hab haM hbM haA hbA hX5 hqB hq
        go_wp2_with fail
        go_loopw [19] (fun jv wr => ∃ j : Nat, j ≤ k ∧ jv = .int .i64 j ∧ Hid (OwnV 3 w1.heap.size wr ga ka (is (mixT ra rb q k j))) ∧ w5.grownBy wr (some ga)) (fun jv _ => k - (intOf jv).toNat)
        case atStart => exact ⟨0, by omega, by go_num, Lib.hid (by rw [mixT_zero rb q Hra.out]; exact Hoa.out), World.grownBy.refl w5 _⟩
        case round =>
          obtain ⟨j, hj, rfl, hA, hG⟩ := hrel
          generalize wr = Z at *
          have e0 := grown_frozen_cell hG (Ne.symm hga) hba
          have e1 := grown_frozen_cell hG (Ne.symm hga) hbb
          by_cases hjk : j < k
          · have hji : (j : Int) < (k : Int) := by omega
            obtain ⟨x, hx⟩ : ∃ x, x = ra.getD j 0 := ⟨_, rfl⟩
            obtain ⟨z, hz⟩ : ∃ z, z = rb.getD j 0 := ⟨_, rfl⟩
            have hjra : j < ra.length := by rw [Hra.out]; exact hjk
            have hjrb : j < rb.length := by rw [Hrb.out]; exact hjk
            have cx := hA.out.cell (j := j) (by rw [is_length, mixT_length]; exact hjk)
            have hmx : (is (mixT ra rb q k j))[j]'(by rw [is_length, mixT_length]; exact hjk) = .int .i64 x := by
              have := mixT_get ra rb q (k := j) hjk
              rw [if_neg (by omega)] at this
              rw [hx, ← this]; simp [is]
            rw [hmx] at cx
            have hobZ := Hob.out.other hG hne
            have cz := hobZ.cell (j := j) (by rw [is_length]; exact hjrb)
            have hmz : (is rb)[j]'(by rw [is_length]; exact hjrb) = .int .i64 z := by rw [hz, getD_get hjrb]; simp [is]
            rw [hmz] at cz
            have hst := mixT_set ra rb q (n := k) (k := j)
            rw [← hx, ← hz] at hst
            obtain ⟨bx, bx2, bz, bz2⟩ := Hel.out j hjk
            rw [← hx] at bx bx2
            rw [← hz] at bz bz2
            have hmb := mul_b HqB.out ⟨bz, bz2⟩
            have hdq : ((d : Int) - 4) * z = -(q * z) := by rw [Hq.out, ← Int.neg_mul]; congr 1; omega
            have w1' : IntKind.i64.wrap (((d : Int) - 4) * z) = ((d : Int) - 4) * z := IntWalk.i64_in _ (by omega)
            have w2' : IntKind.i64.wrap (x + ((d : Int) - 4) * z) = x + ((d : Int) - 4) * z := IntWalk.i64_in _ (by omega)
            have Hst := Lib.hid (show (mixT ra rb q k j).set j (x + ((d : Int) - 4) * z) = mixT ra rb q k (j + 1) by rw [← hst, hdq]; congr 1)
            have k0' := cell_regrown e0
            have k1' := cell_regrown e1
            have k2' := cell_regrown cx
            have k3' := cell_regrown cz
            have q1 := cx
            clear hx hz hmx hmz hst hmb hdq hjra hjrb bx bx2 bz bz2
            go_wp2_with fail
            refine wp_region_quiet_tail 18 (by kernel_rfl) (by kernel_rfl) ?_
            simp only [List.take_succ_cons, List.take_zero, List.drop_succ_cons, List.drop_zero]
            repeat (go_big_quiet_step (fail))
            refine wpQuiet_nil ?_
            intro _ hw'
            obtain ⟨⟨dq, osq⟩, hw''⟩ := hw'
            subst hw''
            have hE7 := ext_regrown Z dq osq
            have d5 := hE7.cell q1
            clear k0' k1' k2' k3'
            have hG7 := grown_trans hG (grown_ext hE7 (some ga))
            generalize grow (redrawn Z dq) osq = Z5 at *
            have hA5 := hA.out.ext hE7
            have f5 := hA5.frozen j
            obtain ⟨hO6, hG6⟩ := hA5.set j (.int .i64 (x + ((d : Int) - 4) * z))
            rw [← is_set, Hst.out] at hO6
            have HO6 := Lib.hid hO6
            have HG6 := Lib.hid (grown_trans hG7 hG6)
            clear hO6 hG6 hA5 hE7 hobZ
            go_wp2_with fail
            go_roundw
            case rel => exact ⟨j + 1, by omega, by go_num, HO6, HG6.out⟩
            case measure => simp [intOf] <;> omega
          · have hje : j = k := by omega
            have hji : ¬ (j : Int) < (k : Int) := by omega
            have hA2 := hA.out
            rw [hje, mixT_all q Hra.out Hrb.out] at hA2
            have hS2 := Hset.out _ _ hA2 hG (by rw [subK_length]; exact Hra.out)
            rw [HM1.out] at hS2
            have HmY := Lib.hid hS2
            have HS1 := Lib.hid (show SmF (rowSub a b q M) ∧ Eqv (eM M) (eM (rowSub a b q M)) ∧ (rowSub a b q M).length = N from ⟨HSM.out.1, HSM.out.2, by rw [rowSub_length]; exact HMl.out⟩)
            have Hu1Y := Lib.hid (Hu15.out.kept hG Hbd.out.2)
            have Hu2Y := Lib.hid (Hu25.out.kept hG Hbd.out.2)
            have HXY := Lib.hid (ext_trans_grown hXs5.out hG Hbd.out.1)
            clear hA hA2 hS2 hG e1 hba hbb HmX5 Hu15 Hu25 Hoa Hob Hset hje HM1 HSM
            generalize Z = Y5 at *
            generalize rowSub a b q M = M1 at *
            have HN1 := Lib.hid HS1.out.2.2
            obtain ⟨p, hp⟩ : ∃ p, p = N - 1 := ⟨_, rfl⟩
            have hpI : (N : Int) - 1 = (p : Int) := by omega
            have hpN : (p : Int) < (N : Int) := by omega
            have hp0 : ¬ (p : Int) < 0 := by omega
            have hp1 : ¬ p = 0 := by omega
            have hp2 : ¬ 0 = p := by omega
            have hA0 : 0 < ad.length := by rw [Hadl.out]; omega
            have hAp : p < ad.length := by rw [Hadl.out]; omega
            have f0 := HmY.out.hd HN1.out.symm hA0
            have fp := HmY.out.hd HN1.out.symm hAp
            obtain ⟨hsw, hgw⟩ := HmY.out.swapR HN1.out.symm hA0 hAp
            have fz0 := (HmY.out.outer HN1.out.symm).frozen 0
            have fzp := (HmY.out.outer HN1.out.symm).frozen p
            obtain ⟨ga9, ka9, hga9⟩ : ∃ ga9 ka9, ad[0] = (ga9, ka9) := ⟨_, _, rfl⟩
            obtain ⟨gb9, kb9, hgb9⟩ : ∃ gb9 kb9, ad[p] = (gb9, kb9) := ⟨_, _, rfl⟩
            rw [hga9] at f0 hsw hgw
            rw [hgb9] at fp hsw hgw
            simp only at f0 fp hsw hgw
            have HSW := Lib.hid (smf_swap HS1.out.1 (i := 0) (j := p) (by rw [HN1.out]; omega) (by rw [HN1.out]; omega))
            have Hsw := Lib.hid hsw
            have Hgw := Lib.hid hgw
            have hgb2 := Hg2.out
            clear hsw hgw hga9 hgb9 hp hA0 hAp
            go_wp2_with fail
            go_region
            have hu1W := (Hu1Y.out.kept Hgw.out hgb2).ext ((Ext.refl _).drew)
            have hu2W := (Hu2Y.out.kept Hgw.out hgb2).ext ((Ext.refl _).drew)
            have hRW := Hsw.out.ext ((Ext.refl _).drew)
            have hXW := (ext_trans_grown HXY.out Hgw.out (by have := Hw12.out; have := HgB.out; omega)).drew
            generalize hW7 : World.drew (World.setCell _ _ _) = W7 at *
            clear hW7 Hsw Hgw f0 fp fz0 fzp HmY Hu1Y Hu2Y HXY
            have hRl : (rowSwap 0 p M1).length = N := by rw [rowSwap_length]; exact HN1.out
            have hfn := Lib.hid (Factors08_any hRW HSW.out.1 (HL.out.ext hXW))
            have Heq := Lib.hid (HS1.out.2.1.trans HSW.out.2)
            have Hu1W := Lib.hid hu1W
            have Hu2W := Lib.hid hu2W
            clear hu1W hu2W hRW hRl
            go_wp2_with fail
            refine hfn.out.mono ?_
            rintro e w8 ⟨u3, D3, rfl, hu3, hD3, hl3, hE8⟩
            obtain rfl : D1 = D3 := HD1.out.uni hD3 Heq.out
            obtain ⟨su3, cu3, rfl, _⟩ := hu3.row.len
            rw [← Hl1e.out] at hu3 ⊢
            have hX8 := hXW.trans hE8
            have H1R := Lib.hid (Hu1W.out.ext hE8).row
            have H2R := Lib.hid (Hu2W.out.ext hE8).row
            have H3R := Lib.hid hu3.row
            clear hu3 hD3 hl3 hE8 hXW hfn Hu1W Hu2W
            go_wp2_with fail
            refine (s08_same H1R.out H2R.out (by have := Hl1.out; omega)).mono ?_
            rintro e w9 ⟨rfl, hE9⟩
            have hX9 := hX8.trans hE9
            have H1S := Lib.hid (H1R.out.ext hE9)
            have H3S := Lib.hid (H3R.out.ext hE9)
            clear hE9 hX8 H1R H2R H3R
            go_wp2_with fail
            refine (s08_same H1S.out H3S.out (by have := Hl1.out; omega)).mono ?_
            rintro e w10 ⟨rfl, hE10⟩
            go_wp2_with fail
            go_ret
            exact ⟨rfl, hX9.trans hE10⟩
end Go.Proofs.YtcklioolpicmcaaGreatDoor
/- what the rows' frames need: the listed variables, matrices opened -/
namespace Go.Proofs.YtcklioolpicmcaaGreatDoor
open Go.ChangeShapes Go.WideShapes Go.ChangeAt Go.WideMaps Go.WideElems Go.RowKit Go.Deep
theorem fr_own : ownKnob Tryz.prog.godebug = none := by kernel_rfl
theorem fr_laidOut : laidOutB Tryz.prog = true := by kernel_rfl
theorem fr_pow : Tryz.prog.globalNamed "internal/strconv.uint64pow10" = some 3 := by kernel_rfl
theorem fr_powT : (Tryz.prog.globals[3]?).map (·.type) = some 272 := by kernel_rfl
theorem fr_rng : Tryz.prog.globalNamed "strconv.ErrRange" = some 2 := by kernel_rfl
theorem fr_rngT : (Tryz.prog.globals[2]?).map (·.type) = some 192 := by kernel_rfl
theorem fr_c20 : Tryz.prog.cellsOf 272 = 20 := by kernel_rfl
theorem fr_cu : Tryz.prog.cellsOf 208 = 1 := by kernel_rfl
theorem fr_cE : Tryz.prog.cellsOf 277 = 1 := by kernel_rfl
theorem fr_cS : Tryz.prog.cellsOf 9 = 1 := by kernel_rfl
theorem fr_cR : Tryz.prog.cellsOf 32 = 1 := by kernel_rfl
theorem fr_cI : Tryz.prog.cellsOf 3 = 1 := by kernel_rfl
theorem fr_star : "*" ++ "errors.errorString" = "*errors.errorString" := by decide
theorem fr_ptr (u : TypeId) (h : Tryz.prog.typeName? 3 u = some "*errors.errorString") : u = 275 :=
  typeName_ptr_named (nm := "errors.errorString") (by rw [fr_star]; kernel_rfl) (by kernel_rfl) (by decide) u (by rw [fr_star]; exact h)
abbrev fr_list : List (String × DataW Unit) := [("math/bits.deBruijn32tab", Rows.laid_math_bits_deBruijn32tab), ("math/bits.deBruijn64tab", Rows.laid_math_bits_deBruijn64tab), ("internal/strconv.uint64pow10", Rows.laid_internal_strconv_uint64pow10), ("strconv.ErrRange", Rows.laid_strconv_ErrRange), ("strconv.ErrSyntax", Rows.laid_strconv_ErrSyntax)]
theorem fr_tab : (Rows.laid_internal_strconv_uint64pow10 : DataW Unit) = Lib.tabData .u64 Lib.pow10Tab := by kernel_rfl
theorem laid_of {W : World} (h : laidMetH Tryz.prog fr_list W) : Laid W := by
  rw [MakeChecks.laidMetH_plain _ _ _ (by kernel_rfl)] at h
  have h3 := h.tail.tail
  rw [fr_tab] at h3
  refine ⟨Lib.tabIs_of_head fr_pow fr_powT Tryz.underlying272 Tryz.underlying208 fr_cu fr_c20 h3, ?_⟩
  obtain ⟨a, s, hv, _⟩ := laid_sentinel h3.tail fr_rng fr_rngT Tryz.underlying192 fr_ptr Tryz.underlying275 Tryz.underlying277 rfl rfl Tryz.underlying9 fr_cE fr_cS
  exact ⟨_, _, hv⟩
/-- The door's own heap meets the condition. -/
theorem door_met (os : Os) (args : Array Value) : laidMetH Tryz.prog fr_list ((World.doorLaid Tryz.prog 400 os).forCall (fun _ _ => 0) ⟨#[], args, []⟩).memory :=
  laidMetH_of_parts3 (fuel := 8) (laidMet_of_run' 8 (by kernel_rfl) (by kernel_rfl)) (by kernel_rfl) (by kernel_rfl)
theorem row_open {W : World} {A : Option Addr} {L C : Nat} {Z : List Int} {base : Nat} (h1 : L ≤ C) (h2 : Z.length = C) (h3 : A = none → C = 0) (h4 : ∀ a', A = some a' → base ≤ a'.block ∧ ∀ c, c < C → W.cell? (a'.add c) = some (.int .i64 (Z.getD c 0))) : RowR W (.slice A L C) (Z.take L) := by
  have hl : (Z.take L).length = L := by rw [List.length_take]; omega
  cases A with
  | none =>
    have hC := h3 rfl
    refine ⟨none, 0, 0, C, by rw [hl], by rw [hl]; exact h1, fun h => ?_, fun i x hx => ?_⟩
    · rw [is_length, hl] at h; omega
    · have := (List.getElem?_eq_some_iff.1 hx).1
      rw [is_length, hl] at this; omega
  | some a =>
    obtain ⟨_, hc⟩ := h4 a rfl
    have hsp : 0 < L → a.spot = none := fun h => by simpa [Addr.add] using World.cell?_spot (hc 0 (by omega))
    obtain ⟨b, o, sp⟩ := a
    refine ⟨some ⟨b, o, sp⟩, b, o, C, by rw [hl], by rw [hl]; exact h1, fun h => ?_, fun i x hx => ?_⟩
    · rw [is_length, hl] at h
      have := hsp h
      simp at this
      rw [this]
    · have hi := (List.getElem?_eq_some_iff.1 hx).1
      rw [is_length, hl] at hi
      have := hsp (by omega)
      simp at this
      subst this
      rw [is_get (by rw [hl]; exact hi)] at hx
      have e := Option.some.inj hx
      rw [← e, ← add_plain, hc i (by omega), List.getElem_take, getD_get (by omega)]
theorem mat_open {H : Type} {enc : TypeId × Value → H} {W : World} {base : Nat} {held : Bool} {fuel : Nat} {v : Value} {x : DataW H × List MemPlace} (hv : v.cells.toList = [v])
    (h : DataW.trod enc Tryz.prog W base (fun _ => true) held fuel 29 v.cells.toList = some x) : ∃ M, MatR W v M := by
  rw [hv] at h
  rcases open_int_rows Tryz.underlying29 Tryz.underlying32 Tryz.underlying3 fr_cR fr_cI h with ⟨hcs, _⟩ | ⟨a, len, cap, A, L, C, Z, hcs, _, hl, _, _, hrows⟩
  · obtain rfl : v = .slice none 0 0 := by simpa using hcs
    exact ⟨[], none, 0, 0, 0, [], rfl, Nat.le_refl _, rfl, Sl.nil _ _ _ _, fun i h => by simp at h⟩
  · obtain rfl : v = .slice (some a) len cap := by simpa using hcs
    have hsp : 0 < len → a.spot = none := fun h => by simpa [Addr.add] using World.cell?_spot (hrows 0 (by omega)).1
    obtain ⟨b, o, sp⟩ := a
    refine ⟨(List.range len).map fun r => (Z r).take (L r), some ⟨b, o, sp⟩, b, o, cap, (List.range len).map fun r => .slice (A r) (L r) (C r), by simp, by simpa using hl, by simp, ⟨fun h => ?_, fun i y hy => ?_⟩, fun i hi hi' => ?_⟩
    · have := hsp (by simpa using h)
      simp at this
      rw [this]
    · have hi := (List.getElem?_eq_some_iff.1 hy).1
      have hil : i < len := by simpa using hi
      have := hsp (by omega)
      simp at this
      subst this
      have e : y = .slice (A i) (L i) (C i) := by
        rw [List.getElem?_eq_getElem hi] at hy
        have := Option.some.inj hy
        rw [← this]; simp
      rw [e, ← add_plain]
      exact (hrows i (by omega)).1
    · have hil : i < len := by simpa using hi
      obtain ⟨_, r1, _, r3, _, r5, r6⟩ := hrows i (by omega)
      have := row_open r1 r3 r5 r6
      simpa using this
end Go.Proofs.YtcklioolpicmcaaGreatDoor
/- numbers of 8 bits among arguments -/
namespace Go.Proofs.YtcklioolpicmcaaGreatDoor
open Go.ChangeShapes Go.WideShapes Go.ChangeAt Go.WideMaps Go.WideElems Go.RowKit Go.Deep
theorem fr_c8 : Tryz.prog.cellsOf 22 = 1 := by kernel_rfl
theorem fr_cu8 : Tryz.prog.cellsOf 5 = 1 := by kernel_rfl
theorem take_one {l : List Value} {k : Nat} {x : Value} (h : (l.drop k).take 1 = [x]) : l[k]? = some x := by
  have := congrArg (·[0]?) h
  simpa [List.getElem?_take] using this
theorem i8_bounds {n : Int} (h : (Lit.int .i8 n).wf = true) : -128 ≤ n ∧ n ≤ 127 := by
  simp only [Lit.wf, Bool.and_eq_true, decide_eq_true_eq] at h
  have e1 : IntKind.i8.min = -128 := by rfl
  have e2 : IntKind.i8.max = 127 := by rfl
  omega
theorem u8_bounds {n : Int} (h : (Lit.int .u8 n).wf = true) : 0 ≤ n ∧ n ≤ 255 := by
  simp only [Lit.wf, Bool.and_eq_true, decide_eq_true_eq] at h
  have e1 : IntKind.u8.min = 0 := by rfl
  have e2 : IntKind.u8.max = 255 := by rfl
  omega
theorem i8_cells {H : Type} {enc : TypeId × Value → H} {W : World} {base : Nat} {sp : Nat → Bool} {held : Bool} {fuel n : Nat} {t : TypeId} {l : List Value} {x : DataW H × List MemPlace} (ht : Tryz.prog.underlying t = some (.array n 22))
    (h : DataW.trod enc Tryz.prog W base sp held fuel t l = some x) : ∀ j, j < n → ∃ z : Int, l[j]? = some (.int .i8 z) ∧ -128 ≤ z ∧ z ≤ 127 := by
  obtain ⟨xs, m, _, _, _, hxl, hx⟩ := DataW.trod_array ht h
  intro j hj
  have h1 := hx j hj
  rw [fr_c8, Nat.mul_one, List.getElem?_eq_getElem (by omega)] at h1
  obtain ⟨z, hz, _, hw⟩ := DataW.trod_int Tryz.underlying22 h1
  exact ⟨z, take_one hz, i8_bounds hw⟩
end Go.Proofs.YtcklioolpicmcaaGreatDoor
/- shapes of matrices (schismalaw08) among arguments -/
namespace Go.Proofs.YtcklioolpicmcaaGreatDoor
open Go.ChangeShapes Go.WideShapes Go.ChangeAt Go.WideMaps Go.WideElems Go.RowKit Go.Deep
theorem fr_cSh : Tryz.prog.cellsOf 25 = 11 := by kernel_rfl
theorem okWide_arr {P : Program} {w : World} {r : Reach} {base : Nat} {t e : TypeId} {n : Nat} {v : Value} (ht : P.underlying t = some (.array n e)) (h : Value.okWide P w r base t v) : ∃ cs, v = .agg cs ∧ cs.size = P.cellsOf t := by
  simp only [Value.okWide, ht] at h
  obtain ⟨cs, h1, h2, _⟩ := h
  exact ⟨cs, h1, h2⟩
theorem list11s {l : List Value} {a b c d e f g h i j k : Value} (hl : l.length = 11) (h0 : l[0]? = some a) (h1 : l[1]? = some b) (h2 : l[2]? = some c) (h3 : l[3]? = some d) (h4 : l[4]? = some e) (h5 : l[5]? = some f) (h6 : l[6]? = some g) (h7 : l[7]? = some h) (h8 : l[8]? = some i) (h9 : l[9]? = some j) (h10 : l[10]? = some k) : l = [a, b, c, d, e, f, g, h, i, j, k] := by
  refine List.ext_getElem? fun n => ?_
  match n with
  | 0 => exact h0
  | 1 => exact h1
  | 2 => exact h2
  | 3 => exact h3
  | 4 => exact h4
  | 5 => exact h5
  | 6 => exact h6
  | 7 => exact h7
  | 8 => exact h8
  | 9 => exact h9
  | 10 => exact h10
  | n + 11 => rw [List.getElem?_eq_none (by omega), List.getElem?_eq_none (by simp)]
set_option maxRecDepth 100000 in
theorem shape_open {H : Type} {enc : TypeId × Value → H} {W : World} {base : Nat} {sp : Nat → Bool} {held : Bool} {fuel : Nat} {cs : Array Value} {x : DataW H × List MemPlace} (hs : cs.size = 11)
    (h : DataW.trod enc Tryz.prog W base sp held fuel 25 cs.toList = some x) : ∃ (R C : Nat) (e0 e1 e2 e3 e4 e5 e6 e7 e8 : Int), cs = #[.int .u8 R, .int .u8 C, .int .i8 e0, .int .i8 e1, .int .i8 e2, .int .i8 e3, .int .i8 e4, .int .i8 e5, .int .i8 e6, .int .i8 e7, .int .i8 e8] ∧
      ShapeV #[.int .u8 R, .int .u8 C, .int .i8 e0, .int .i8 e1, .int .i8 e2, .int .i8 e3, .int .i8 e4, .int .i8 e5, .int .i8 e6, .int .i8 e7, .int .i8 e8] R C [e0, e1, e2, e3, e4, e5, e6, e7, e8] := by
  obtain ⟨xs, n, _, _, _, hxl, hx⟩ := DataW.trod_struct Tryz.underlying25 h
  have hx3 : xs.length = 3 := hxl
  have h0 := hx 0 _ rfl
  have h1 := hx 1 _ rfl
  have h2 := hx 2 _ rfl
  rw [List.getElem?_eq_getElem (by omega)] at h0 h1 h2
  have h0' : DataW.trod enc Tryz.prog W base sp held n 5 ((cs.toList.drop 0).take 1) = some xs[0] := h0
  have h1' : DataW.trod enc Tryz.prog W base sp held n 5 ((cs.toList.drop 1).take 1) = some xs[1] := h1
  have h2' : DataW.trod enc Tryz.prog W base sp held n 23 ((cs.toList.drop 2).take 9) = some xs[2] := h2
  obtain ⟨a, ha, _, wa⟩ := DataW.trod_int Tryz.underlying5 h0'
  obtain ⟨b, hb, _, wb⟩ := DataW.trod_int Tryz.underlying5 h1'
  have e2 := i8_cells Tryz.underlying23 h2'
  have ba := u8_bounds wa
  have bb := u8_bounds wb
  obtain ⟨z0, k0, b0⟩ := e2 0 (by omega)
  obtain ⟨z1, k1, b1⟩ := e2 1 (by omega)
  obtain ⟨z2, k2, b2⟩ := e2 2 (by omega)
  obtain ⟨z3, k3, b3⟩ := e2 3 (by omega)
  obtain ⟨z4, k4, b4⟩ := e2 4 (by omega)
  obtain ⟨z5, k5, b5⟩ := e2 5 (by omega)
  obtain ⟨z6, k6, b6⟩ := e2 6 (by omega)
  obtain ⟨z7, k7, b7⟩ := e2 7 (by omega)
  obtain ⟨z8, k8, b8⟩ := e2 8 (by omega)
  obtain ⟨R, rfl⟩ : ∃ R : Nat, a = (R : Int) := ⟨a.toNat, by omega⟩
  obtain ⟨C, rfl⟩ : ∃ C : Nat, b = (C : Int) := ⟨b.toNat, by omega⟩
  have hl : cs.toList.length = 11 := by simpa using hs
  have g0 : cs.toList[0]? = some (.int .u8 R) := by
    have := congrArg (fun l : List Value => l[0]?) ha; simpa using this
  have g1 : cs.toList[1]? = some (.int .u8 C) := by
    have := congrArg (fun l : List Value => l[0]?) hb; simpa using this
  have hcs : cs.toList = [.int .u8 R, .int .u8 C, .int .i8 z0, .int .i8 z1, .int .i8 z2, .int .i8 z3, .int .i8 z4, .int .i8 z5, .int .i8 z6, .int .i8 z7, .int .i8 z8] :=
    list11s hl g0 g1 (by simpa using k0) (by simpa using k1) (by simpa using k2) (by simpa using k3) (by simpa using k4) (by simpa using k5) (by simpa using k6) (by simpa using k7) (by simpa using k8)
  refine ⟨R, C, z0, z1, z2, z3, z4, z5, z6, z7, z8, by rw [← Array.toArray_toList (xs := cs), hcs], ⟨rfl, rfl, rfl, rfl, fun j hj => ?_, fun j hj => ?_, by omega, by omega⟩⟩
  · rcases (show j = 0 ∨ j = 1 ∨ j = 2 ∨ j = 3 ∨ j = 4 ∨ j = 5 ∨ j = 6 ∨ j = 7 ∨ j = 8 by omega) with rfl | rfl | rfl | rfl | rfl | rfl | rfl | rfl | rfl <;> rfl
  · rcases (show j = 0 ∨ j = 1 ∨ j = 2 ∨ j = 3 ∨ j = 4 ∨ j = 5 ∨ j = 6 ∨ j = 7 ∨ j = 8 by omega) with rfl | rfl | rfl | rfl | rfl | rfl | rfl | rfl | rfl <;> assumption
end Go.Proofs.YtcklioolpicmcaaGreatDoor
