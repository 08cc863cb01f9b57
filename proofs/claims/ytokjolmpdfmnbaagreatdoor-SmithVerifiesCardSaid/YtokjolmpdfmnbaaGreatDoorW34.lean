/- Part 34 of the proof of the claim: contracts of the functions that it reaches, and plain laws; no condition. -/
import Derived.Test.YtokjolmpdfmnbaaGreatDoorW18
import Derived.Test.YtokjolmpdfmnbaaGreatDoorW19
import Derived.Test.YtokjolmpdfmnbaaGreatDoorW31
import Derived.Test.YtokjolmpdfmnbaaGreatDoorW33
import Derived.Test.YtokjolmpdfmnbaaGreatDoorW30
namespace Go.Proofs.YtokjolmpdfmnbaaGreatDoor
open Go.RowKit Go.Sort
def uniB (L : Mx) (n : Nat) : Bool := decide (detF n L = 1 ∨ detF n L = -1)
def FormU (M F : Mx) : Prop := if 0 < M.length ∧ 0 < ncols M then ∃ rank s, FinD M.length (ncols M) (eM M) rank s ∧ F = s.a else F = M
theorem FormU.uni {M F F' : Mx} (h : FormU M F) (h' : FormU M F') (hn : M.length ≤ 3) : F = F' := by
  unfold FormU at h h'
  split at h
  · rename_i hc
    rw [if_pos hc] at h'
    obtain ⟨r, s, hf, rfl⟩ := h
    obtain ⟨r', s', hf', rfl⟩ := h'
    obtain ⟨hd, _, _⟩ := hf.dia hn
    obtain ⟨hd', _, _⟩ := hf'.dia hn
    have hu := dia_uni hd hd' (hf.eqv.symm.trans hf'.eqv)
    refine List.ext_getElem (by rw [hf.inv.sh.la, hf'.inv.sh.la]) fun i h1 h2 => ?_
    refine List.ext_getElem (by rw [hf.inv.sh.ra _ (List.getElem_mem h1), hf'.inv.sh.ra _ (List.getElem_mem h2)]) fun k h3 h4 => ?_
    have e1 : (s.a[i])[k] = eM s.a i k := by unfold eM; rw [getD_get h1, getD_get h3]
    have e2 : (s'.a[i])[k] = eM s'.a i k := by unfold eM; rw [getD_get h2, getD_get h4]
    rw [e1, e2, hd.el, hd'.el, hu]
  · rename_i hc
    rw [if_neg hc] at h'
    rw [h, h']
theorem dia_u {M : Mx} (h : SmM M) : ∃ F, FormU M F ∧ smallM F = true ∧ F.length = M.length ∧ Rect (ncols M) F ∧ (∀ r ∈ F, ∀ z ∈ r, nd z ≤ LIM) ∧
    ∀ (w : World) (v : Value), MatR w v M → Laid w → Calls Tryz.prog 58 #[v] w fun e w' => ∃ p rk va, e = .returned (.tuple #[.pointer (some ⟨p, 0, none⟩), .int .i64 rk]) ∧ w'.cell? ⟨p, 0, none⟩ = some va ∧ GridR w' va F ∧ Ext w w' := by
  by_cases hz : 0 < M.length ∧ 0 < ncols M
  · have hS := h.smf hz.1 hz.2
    obtain ⟨f, rank, fin, hr, hf, hB⟩ := hS.run
    have hent : ∀ r ∈ M, ∀ z ∈ r, -1000000000 ≤ z ∧ z ≤ 1000000000 := fun r hr z hz => by have := hS.mem r hr z hz; omega
    refine ⟨fin.a, by unfold FormU; rw [if_pos hz]; exact ⟨rank, fin, hf, rfl⟩, fin_small hS.n3 hf (fun i k => by have := hS.ent i k; omega), hf.inv.sh.la, hf.inv.sh.ra, fun r hr z hz => by have h1 := nd_lt2 (hB r hr z hz); have h2 := ed_lim; omega, fun w v hM hL => ?_⟩
    refine (diagonal_any hM hS.rect hS.n0 hS.c0 (by have := hS.n3; omega) (by have := hS.c3; omega) hent hr ed_lim (by unfold ED; omega) hL).mono ?_
    rintro e w' ⟨x, aa, al, ar, rfl, hW, hE⟩
    exact ⟨x.p, rank, _, rfl, hW.c0, by have := hW.a.gridR; rwa [hW.la] at this, hE⟩
  · have hR : Rect 0 M := by
      rcases Nat.eq_zero_or_pos M.length with e | e
      · rw [List.eq_nil_of_length_eq_zero e]; intro r hr; cases hr
      · rw [show 0 = ncols M by omega]; exact h.rect
    refine ⟨M, by unfold FormU; rw [if_neg hz], rect0_smallM hR, rfl, h.rect, fun r hr => (rect0_nd hR r hr).2, fun w v hM hL => ?_⟩
    refine (diagonal0_any hM hR (by have := h.n3; omega) hL).mono ?_
    rintro e w' ⟨p, va, rfl, hc, hG, hE⟩
    exact ⟨p, 0, va, rfl, hc, hG, hE⟩
theorem form_u {M : Mx} (h : SmM M) {w : World} {v : Value} (hM : MatR w v M) (hL : Laid w) :
    Calls Tryz.prog 18 #[v] w fun e w' => ∃ u F, e = .returned (.tuple #[u, .int .i64 0]) ∧ MatR w' u F ∧ FormU M F ∧ Ext w w' := by
  by_cases hz : 0 < M.length ∧ 0 < ncols M
  · refine (Form08_any hM (h.smf hz.1 hz.2) hL).mono ?_
    rintro e w' ⟨u, rfl, ⟨F, hF, hl, hr, rank, s, hf, hs⟩, hE⟩
    exact ⟨u, F, rfl, hF.mat, by unfold FormU; rw [if_pos hz]; exact ⟨rank, s, hf, hs⟩, hE⟩
  · have hR : Rect 0 M := by
      rcases Nat.eq_zero_or_pos M.length with e | e
      · rw [List.eq_nil_of_length_eq_zero e]; intro r hr; cases hr
      · rw [show 0 = ncols M by omega]; exact h.rect
    refine (Form0_any hM hR h.n3 hL).mono ?_
    rintro e w' ⟨u, rfl, hu, hE⟩
    exact ⟨u, M, rfl, hu.mat, by unfold FormU; rw [if_neg hz], hE⟩
theorem squareB_iff {M : Mx} {n : Nat} : squareB M n = true ↔ M.length = n ∧ Rect n M := by
  unfold squareB
  rw [Bool.and_eq_true, decide_eq_true_eq, Bool.not_eq_true']
  constructor
  · rintro ⟨h1, h2⟩
    refine ⟨h1, fun r hr => ?_⟩
    obtain ⟨i, hi, rfl⟩ := List.getElem_of_mem hr
    have := anyB_false h2 i hi
    rw [decide_eq_false_iff_not, show M.getD i [] = M[i] from getD_get hi []] at this
    exact Classical.not_not.1 this
  · rintro ⟨h1, h2⟩
    refine ⟨h1, anyB_no fun i hi => decide_eq_false ?_⟩
    rw [show M.getD i [] = M[i] from getD_get hi []]
    exact fun hn => hn (h2 _ (List.getElem_mem hi))
theorem uni_u {L : Mx} {n : Nat} (hs : squareB L n = true) (hn : n ≤ 3) (hck : checkM L = 0) {w : World} {v : Value} (hM : MatR w v L) (hL : Laid w) :
    Calls Tryz.prog 61 #[v] w fun e w' => e = .returned (.tuple #[.bool (uniB L n), .int .i64 0]) ∧ Ext w w' := by
  obtain ⟨h1, h2⟩ := squareB_iff.1 hs
  have hnc : ncols L = n := by
    rcases Nat.eq_zero_or_pos n with h | h
    · subst h
      rw [List.eq_nil_of_length_eq_zero h1]; rfl
    · exact ncols_of (by omega) h2
  have hk : 13 * (bC L.length 30 (ncols L) + 2) < LIM := by
    rw [h1, hnc]
    rcases (show n = 0 ∨ n = 1 ∨ n = 2 ∨ n = 3 by omega) with rfl | rfl | rfl | rfl <;> decide
  refine (Unimodular_ok hM hck hk hL).mono ?_
  rintro e w' ⟨b, rfl, _, hb, hE⟩
  obtain ⟨G, hG, hbg⟩ := hb (by omega)
  rw [hnc] at hG
  rw [h1, uni_det h1 h2 hn hG] at hbg
  refine ⟨?_, hE⟩
  have : b = uniB L n := by
    rw [Bool.eq_iff_iff, hbg]
    unfold uniB
    rw [decide_eq_true_eq]
  rw [this]
theorem ix2m_a (w : World) (a b : Value) : (Instr.index 118 (.agg #[a, b]) (.int .i64 0)).run Tryz.prog w = .ok a w := by
  simp [Instr.index, run_underlying Tryz.underlying118, asIntOf, go_sem]
theorem ix2m_b (w : World) (a b : Value) : (Instr.index 118 (.agg #[a, b]) (.int .i64 1)).run Tryz.prog w = .ok b w := by
  simp [Instr.index, run_underlying Tryz.underlying118, asIntOf, go_sem]
def verQ (M F L R : Mx) : Int :=
  if squareB L M.length = true ∧ squareB R (ncols M) = true then
    if uniB L M.length = true ∧ uniB R (ncols M) = true ∧ (ncols M = 0 ∨ mulM (mulM L M (ncols M)) R (ncols M) = F) then 0 else 23
  else 5
theorem check_bit {M : Mx} (h : checkM M = 0) : M.length ≤ 12 ∧ ncols M ≤ 12 ∧ Rect (ncols M) M ∧ BitM 30 M ∧ ∀ r ∈ M, ∀ z ∈ r, I64 z := by
  obtain ⟨h1, h2, h3, h4⟩ := checkM_ok h
  refine ⟨h1, h2, h3, bitm_of fun r hr z hz => ?_, fun r hr z hz => by have := h4 r hr z hz; unfold I64; omega⟩
  have := h4 r hr z hz
  have e : (2 : Nat) ^ 30 = 1073741824 := by decide
  rw [e]; omega
set_option maxRecDepth 100000 in
set_option maxHeartbeats 4000000 in
theorem Verify_any {w : World} {va vb vc : Value} {M L R F : Mx} (hA : MatR w va M) (hB : MatR w vb L) (hC : MatR w vc R) (h : SmM M) (hl : checkM L = 0) (hr : checkM R = 0) (hF : FormU M F) (hL : Laid w) :
    Calls Tryz.prog 16 #[va, vb, vc] w fun e w' => e = .returned (.int .i64 (verQ M F L R)) ∧ Ext w w' := by
  obtain ⟨F', f1, f2, f3, f4, f5, hdg0⟩ := dia_u h
  obtain rfl := f1.uni hF h.n3
  obtain ⟨m1, m2, m3, m4, m5⟩ := check_bit (sm_check h)
  obtain ⟨l1, l2, l3, l4, l5⟩ := check_bit hl
  obtain ⟨r1, r2, r3, r4, r5⟩ := check_bit hr
  have hn3 := h.n3
  have hc3 := h.c3
  have hca := Lib.hid (fun W (hW : Ext w W) => tableCheck_any (hA.ext hW))
  have hcb := Lib.hid (fun W (hW : Ext w W) => tableCheck_any (hB.ext hW))
  have hcc := Lib.hid (fun W (hW : Ext w W) => tableCheck_any (hC.ext hW))
  rw [sm_check h] at hca
  rw [hl] at hcb
  rw [hr] at hcc
  obtain ⟨N, hN⟩ : ∃ N, N = M.length := ⟨_, rfl⟩
  obtain ⟨c, hc⟩ : ∃ c, c = ncols M := ⟨_, rfl⟩
  have hsl := Lib.hid (fun W (hW : Ext w W) => square_any (n := N) (hB.ext hW) (by omega) (fun r hr => by rw [l3 r hr]; omega))
  have hsr := Lib.hid (fun W (hW : Ext w W) => square_any (n := c) (hC.ext hW) (by omega) (fun r hr => by rw [r3 r hr]; omega))
  have hdg := Lib.hid (fun W (hW : Ext w W) => hdg0 W _ (hA.ext hW) (hL.ext hW))
  have hsm := Lib.hid (fun W v (hW : Ext w W) (hG : GridR W v F') => ssmall_any hG (by omega) (fun r hr => by rw [f4 r hr]; omega) f5 (hL.ext hW))
  have hul := Lib.hid (fun W (hq : squareB L N = true) (hW : Ext w W) => uni_u hq (by omega) hl (hB.ext hW) (hL.ext hW))
  have hur := Lib.hid (fun W (hq : squareB R c = true) (hW : Ext w W) => uni_u hq (by omega) hr (hC.ext hW) (hL.ext hW))
  have hbm := Lib.hid (fun W (hW : Ext w W) => sbig_any (hA.ext hW) (by omega) (fun r hr => by rw [m3 r hr]; omega) m5 (hL.ext hW))
  have hbl := Lib.hid (fun W (hW : Ext w W) => sbig_any (hB.ext hW) (by omega) (fun r hr => by rw [l3 r hr]; omega) l5 (hL.ext hW))
  have hbr := Lib.hid (fun W (hW : Ext w W) => sbig_any (hC.ext hW) (by omega) (fun r hr => by rw [r3 r hr]; omega) r5 (hL.ext hW))
  have ht1 := Lib.hid (fun W x y (hq : squareB L N = true) (hW : Ext w W) (hx : GridR W x L) (hy : GridR W y M) => by
    obtain ⟨q1, q2⟩ := squareB_iff.1 hq
    exact stimes_any (c := c) hx hy (by rw [← hN]; exact q2) (by rw [hc]; exact m3) (fun e => by rw [hc, List.eq_nil_of_length_eq_zero e]; rfl) (by omega) (by omega) (by omega) l4 m4 (by omega) (hL.ext hW))
  have ht2 := Lib.hid (fun W x y (hq : squareB R c = true) (hW : Ext w W) (hx : GridR W x (mulM L M c)) (hy : GridR W y R) => by
    obtain ⟨q1, q2⟩ := squareB_iff.1 hq
    exact stimes_any (c := c) hx hy (by rw [q1]; exact mulM_rect _ _ _) q2 (fun e => by omega) (by rw [mulM_length]; omega) (by omega) (by omega) (mulM_bit l4 m4 (by omega)) r4 (by omega) (hL.ext hW))
  have heq := Lib.hid (fun W x y (hx : GridR W x (mulM (mulM L M c) R c)) (hy : GridR W y F') => sEqF_any hx hy (by rw [mulM_length, mulM_length]; omega) (fun r hr => by rw [mulM_rect _ _ _ r hr]; omega))
  have hq : verQ M F' L R = if squareB L N = true ∧ squareB R c = true then if uniB L N = true ∧ uniB R c = true ∧ (c = 0 ∨ mulM (mulM L M c) R c = F') then 0 else 23 else 5 := by unfold verQ; rw [hN, hc]
  rw [hq]
  have Hrow0 := Lib.hid (show ∀ sa gb go vs, Sl w sa gb go vs → vs.length = M.length → (∀ i (h : i < M.length) (h' : i < vs.length), RowR w vs[i] M[i]) → 0 < N → ∃ sr cr, w.cell? ⟨gb, go, none⟩ = some (.slice sr c cr) from fun sa gb go vs hS hv hr h0 => by
    obtain ⟨sr, br, or, cr, hcell, _, _⟩ := MatR.row hS hv hr (show 0 < M.length by omega)
    rw [m3 _ (List.getElem_mem _), ← hc, Nat.add_zero] at hcell
    exact ⟨sr, cr, hcell⟩)
  have Hnil := Lib.hid (show N = 0 → c = 0 from fun e => by rw [hc, List.eq_nil_of_length_eq_zero (show M.length = 0 by omega)]; rfl)
  obtain ⟨sa, ga, oa, pa, ua, rfl, _, hua, hSa, hra⟩ := hA
  obtain ⟨sb, gb, ob, pb, ub, rfl, _, _, _, _⟩ := hB
  obtain ⟨sc, gc, oc, pc, uc, rfl, _, _, _, _⟩ := hC
  have Hc0 := Lib.hid (Hrow0.out _ _ _ _ hSa hua hra)
  have Hsa := Lib.hid (show 0 < N → sa = some ⟨ga, oa, none⟩ from fun h0 => hSa.addr (by omega))
  clear Hrow0 hSa hua hra
  obtain ⟨nb, hnb⟩ : ∃ nb, nb = L.length := ⟨_, rfl⟩
  obtain ⟨nc, hnc⟩ : ∃ nc, nc = R.length := ⟨_, rfl⟩
  rw [← hN] at hca hdg hbm ⊢
  rw [← hnb] at hcb hsl hul hbl ⊢
  rw [← hnc] at hcc hsr hur hbr ⊢
  have hi0 := fun W => ix3_a W (.slice sa N pa) (.slice sb nb pb) (.slice sc nc pc)
  have hi1 := fun W => ix3_b W (.slice sa N pa) (.slice sb nb pb) (.slice sc nc pc)
  have hi2 := fun W => ix3_c W (.slice sa N pa) (.slice sb nb pb) (.slice sc nc pc)
  have hj0 := fun W => ix2m_a W (.slice sb nb pb) (.slice sc nc pc)
  have hj1 := fun W => ix2m_b W (.slice sb nb pb) (.slice sc nc pc)
  have Hf2 := Lib.hid f2
  obtain ⟨qL, hqL⟩ : ∃ q, q = squareB L N := ⟨_, rfl⟩
  obtain ⟨qR, hqR⟩ : ∃ q, q = squareB R c := ⟨_, rfl⟩
  obtain ⟨uL, huL⟩ : ∃ q, q = uniB L N := ⟨_, rfl⟩
  obtain ⟨uR, huR⟩ : ∃ q, q = uniB R c := ⟨_, rfl⟩
  rw [← hqL] at hsl hul ht1
  rw [← hqR] at hsr hur ht2
  rw [← huL] at hul
  rw [← huR] at hur
  rw [← hqL, ← hqR, ← huL, ← huR]
  obtain ⟨q, hqq⟩ : ∃ q : Int, q = if qL = true ∧ qR = true then if uL = true ∧ uR = true ∧ (c = 0 ∨ mulM (mulM L M c) R c = F') then 0 else 23 else 5 := ⟨_, rfl⟩
  rw [← hqq]
  have Hq := Lib.hid hqq
  clear hqq
  clear h hl hr hF hL hdg0 f1 f2 f3 f4 f5 m1 m2 m3 m4 m5 l1 l2 l3 l4 l5 r1 r2 r3 r4 r5 hN hc hnb hnc hq hqL hqR huL huR
  go_enter Tryz.func16, Tryz.ntmps16
  go_wp2_with fail
  go_loopw [8, 9, 24] (fun _ _ kv wr => ∃ k : Nat, k ≤ 3 ∧ kv = .int .i64 k ∧ Ext w wr) (fun _ _ kv _ => 3 - (intOf kv).toNat)
  case atStart => exact ⟨0, by omega, by go_num, Ext.refl _⟩
  case round =>
    obtain ⟨k, hk, rfl, hE⟩ := hrel
    generalize wr = X at *
    rcases (show k = 0 ∨ k = 1 ∨ k = 2 ∨ k = 3 by omega) with rfl | rfl | rfl | rfl
    · rw [show ((0 : Nat) : Int) = 0 from rfl]
      clear hi1 hi2
      go_wp2_with fail
      refine (hca.out _ hE).mono ?_
      rintro e w1 ⟨rfl, hE1⟩
      have hX := hE.trans hE1
      clear hi0 hE hE1 hca
      go_wp2_with fail
      go_roundw
      case rel => exact ⟨1, by omega, by go_num, hX⟩
      case measure => simp [intOf]
    · rw [show ((1 : Nat) : Int) = 1 from rfl]
      clear hi0 hi2
      go_wp2_with fail
      refine (hcb.out _ hE).mono ?_
      rintro e w1 ⟨rfl, hE1⟩
      have hX := hE.trans hE1
      clear hi1 hE hE1 hcb
      go_wp2_with fail
      go_roundw
      case rel => exact ⟨2, by omega, by go_num, hX⟩
      case measure => simp [intOf]
    · rw [show ((2 : Nat) : Int) = 2 from rfl]
      clear hi0 hi1
      go_wp2_with fail
      refine (hcc.out _ hE).mono ?_
      rintro e w1 ⟨rfl, hE1⟩
      have hX := hE.trans hE1
      clear hi2 hE hE1 hcc
      go_wp2_with fail
      go_roundw
      case rel => exact ⟨3, by omega, by go_num, hX⟩
      case measure => simp [intOf]
    · rw [show ((3 : Nat) : Int) = 3 from rfl]
      clear hi0 hi1 hi2 hca hcb hcc
      rcases Nat.eq_zero_or_pos N with h0 | h0
      · have hc0 := Hnil.out h0
        subst h0
        subst hc0
        cases qL
        · have Hr := Lib.hid (show q = 5 by rw [Hq.out, if_neg (by rintro ⟨a, _⟩; cases a)])
          go_wp2_with fail
          refine (hsl.out _ hE).mono ?_
          rintro e w2 ⟨rfl, hE2⟩
          go_wp2_with fail
          go_ret
          exact ⟨by rw [Hr.out]; rfl, hE.trans hE2⟩
        · cases qR
          · have Hr := Lib.hid (show q = 5 by rw [Hq.out, if_neg (by rintro ⟨_, a⟩; cases a)])
            go_wp2_with fail
            refine (hsl.out _ hE).mono ?_
            rintro e w2 ⟨rfl, hE2⟩
            have hX2 := hE.trans hE2
            clear hsl hE2
            go_wp2_with fail
            refine (hsr.out _ hX2).mono ?_
            rintro e w3 ⟨rfl, hE3⟩
            go_wp2_with fail
            go_ret
            exact ⟨by rw [Hr.out]; rfl, hX2.trans hE3⟩
          · have Hq2 := Lib.hid (show q = if uL = true ∧ uR = true ∧ ((0 : Nat) = 0 ∨ mulM (mulM L M 0) R 0 = F') then 0 else 23 by rw [Hq.out, if_pos (by simp)])
            clear Hq
            go_wp2_with fail
            refine (hsl.out _ hE).mono ?_
            rintro e w2 ⟨rfl, hE2⟩
            have hX2 := hE.trans hE2
            clear hsl hE2
            go_wp2_with fail
            refine (hsr.out _ hX2).mono ?_
            rintro e w3 ⟨rfl, hE3⟩
            have hX3 := hX2.trans hE3
            clear hsr hE3 hX2 hE
            go_wp2_with fail
            refine (hdg.out _ hX3).mono ?_
            rintro e w4 ⟨p, rk, va, rfl, hcv, hG, hE4⟩
            have hX4 := hX3.trans hE4
            have HG := Lib.hid hG
            have hs4 := Lib.hid (hsm.out _ _ hX4 hG)
            clear hdg hE4 hX3 hG hsm
            go_wp2_with fail
            refine hs4.out.mono ?_
            rintro e w5 ⟨hp5, hE5⟩
            rw [if_pos Hf2.out] at hp5
            obtain ⟨vs5, rfl, _⟩ := hp5
            have hX5 := hX4.trans hE5
            replace hcv := hE5.cell hcv
            replace HG := Lib.hid (HG.out.ext hE5)
            clear hE5 hX4 hs4
            go_wp2_with fail
            go_loopw [16, 17, 18, 70] (fun _ _ _ kv wr => ∃ k : Nat, k ≤ 2 ∧ kv = .int .i64 k ∧ Hid ((0 < k → uL = true) ∧ (1 < k → uR = true)) ∧ Ext w5 wr) (fun _ _ _ kv _ => 2 - (intOf kv).toNat)
            case atStart => exact ⟨0, by omega, by go_num, Lib.hid ⟨fun h => by omega, fun h => by omega⟩, Ext.refl _⟩
            case round =>
              obtain ⟨k, hk, rfl, Hu, hE⟩ := hrel
              generalize wr = Y at *
              rcases (show k = 0 ∨ k = 1 ∨ k = 2 by omega) with rfl | rfl | rfl
              · rw [show ((0 : Nat) : Int) = 0 from rfl]
                clear hj1
                go_wp2_with fail
                refine (hul.out _ (by first | rfl | trivial) (hX5.trans hE)).mono ?_
                rintro e w6 ⟨rfl, hE6⟩
                have hX6 := hE.trans hE6
                clear hj0 hE6
                cases uL
                · have Hr := Lib.hid (show q = 23 by rw [Hq2.out, if_neg (by rintro ⟨a, _⟩; cases a)])
                  go_wp2_with fail
                  go_ret
                  exact ⟨by rw [Hr.out]; rfl, hX5.trans hX6⟩
                · go_wp2_with fail
                  go_roundw
                  case rel => exact ⟨1, by omega, by go_num, Lib.hid ⟨fun _ => (by first | rfl | trivial), fun h => by omega⟩, hX6⟩
                  case measure => simp [intOf]
              · rw [show ((1 : Nat) : Int) = 1 from rfl]
                obtain rfl := Hu.out.1 (by omega)
                clear hj0
                go_wp2_with fail
                refine (hur.out _ (by first | rfl | trivial) (hX5.trans hE)).mono ?_
                rintro e w6 ⟨rfl, hE6⟩
                have hX6 := hE.trans hE6
                clear hj1 hE6
                cases uR
                · have Hr := Lib.hid (show q = 23 by rw [Hq2.out, if_neg (by rintro ⟨_, a, _⟩; cases a)])
                  go_wp2_with fail
                  go_ret
                  exact ⟨by rw [Hr.out]; rfl, hX5.trans hX6⟩
                · go_wp2_with fail
                  go_roundw
                  case rel => exact ⟨2, by omega, by go_num, Lib.hid ⟨fun _ => (by first | rfl | trivial), fun _ => (by first | rfl | trivial)⟩, hX6⟩
                  case measure => simp [intOf]
              · rw [show ((2 : Nat) : Int) = 2 from rfl]
                obtain rfl := Hu.out.1 (by omega)
                obtain rfl := Hu.out.2 (by omega)
                have hX6 := hX5.trans hE
                replace hcv := hE.cell hcv
                replace HG := Lib.hid (HG.out.ext hE)
                clear hj0 hj1 hE hX5 Hu hul hur
                go_wp2_with fail
                refine (hbl.out _ hX6).mono ?_
                rintro e w7 ⟨v7, a7, rfl, hG7, hE7⟩
                have H7 := Lib.hid hG7.gridR
                have hX7 := hX6.trans hE7
                replace hcv := hE7.cell hcv
                replace HG := Lib.hid (HG.out.ext hE7)
                clear hG7 hE7 hX6 hbl
                go_wp2_with fail
                refine (hbm.out _ hX7).mono ?_
                rintro e w8 ⟨v8, a8, rfl, hG8, hE8⟩
                have H8 := Lib.hid hG8.gridR
                have hX8 := hX7.trans hE8
                replace hcv := hE8.cell hcv
                replace HG := Lib.hid (HG.out.ext hE8)
                replace H7 := Lib.hid (H7.out.ext hE8)
                clear hG8 hE8 hX7 hbm
                go_wp2_with fail
                refine (ht1.out _ _ _ (by first | rfl | trivial) hX8 H7.out H8.out).mono ?_
                rintro e w9 ⟨v9, rfl, hG9, hE9⟩
                have H9 := Lib.hid hG9.grid
                have hX9 := hX8.trans hE9
                replace hcv := hE9.cell hcv
                replace HG := Lib.hid (HG.out.ext hE9)
                clear hG9 hE9 hX8 ht1 H7 H8
                go_wp2_with fail
                refine (hbr.out _ hX9).mono ?_
                rintro e w10 ⟨v10, a10, rfl, hG10, hE10⟩
                have H10 := Lib.hid hG10.gridR
                have hX10 := hX9.trans hE10
                replace hcv := hE10.cell hcv
                replace HG := Lib.hid (HG.out.ext hE10)
                replace H9 := Lib.hid (H9.out.ext hE10)
                clear hG10 hE10 hX9 hbr
                go_wp2_with fail
                refine (ht2.out _ _ _ (by first | rfl | trivial) hX10 H9.out H10.out).mono ?_
                rintro e w11 ⟨v11, rfl, hG11, hE11⟩
                have H11 := Lib.hid hG11.grid
                have hX11 := hX10.trans hE11
                replace hcv := hE11.cell hcv
                replace HG := Lib.hid (HG.out.ext hE11)
                have he := Lib.hid (heq.out _ _ _ H11.out HG.out)
                clear hG11 hE11 hX10 ht2 H9 H10 heq
                have Hr := Lib.hid (show q = 0 by rw [Hq2.out, if_pos (by simp)])
                clear he
                go_wp2_with fail
                go_ret
                exact ⟨by rw [Hr.out]; rfl, hX11⟩
      · have hNI : (0 : Int) < (N : Int) := by omega
        obtain rfl := Hsa.out h0
        obtain ⟨sr, cr, hcell⟩ := Hc0.out h0
        have hcX := hE.cell hcell
        cases qL
        · have Hr := Lib.hid (show q = 5 by rw [Hq.out, if_neg (by rintro ⟨a, _⟩; cases a)])
          go_wp2_with fail
          refine (hsl.out _ hE).mono ?_
          rintro e w2 ⟨rfl, hE2⟩
          go_wp2_with fail
          go_ret
          exact ⟨by rw [Hr.out]; rfl, hE.trans hE2⟩
        · cases qR
          · have Hr := Lib.hid (show q = 5 by rw [Hq.out, if_neg (by rintro ⟨_, a⟩; cases a)])
            go_wp2_with fail
            refine (hsl.out _ hE).mono ?_
            rintro e w2 ⟨rfl, hE2⟩
            have hX2 := hE.trans hE2
            clear hsl hE2
            go_wp2_with fail
            refine (hsr.out _ hX2).mono ?_
            rintro e w3 ⟨rfl, hE3⟩
            go_wp2_with fail
            go_ret
            exact ⟨by rw [Hr.out]; rfl, hX2.trans hE3⟩
          · have Hq2 := Lib.hid (show q = if uL = true ∧ uR = true ∧ (c = 0 ∨ mulM (mulM L M c) R c = F') then 0 else 23 by rw [Hq.out, if_pos (by simp)])
            clear Hq
            go_wp2_with fail
            refine (hsl.out _ hE).mono ?_
            rintro e w2 ⟨rfl, hE2⟩
            have hX2 := hE.trans hE2
            clear hsl hE2
            go_wp2_with fail
            refine (hsr.out _ hX2).mono ?_
            rintro e w3 ⟨rfl, hE3⟩
            have hX3 := hX2.trans hE3
            clear hsr hE3 hX2 hE
            go_wp2_with fail
            refine (hdg.out _ hX3).mono ?_
            rintro e w4 ⟨p, rk, va, rfl, hcv, hG, hE4⟩
            have hX4 := hX3.trans hE4
            have HG := Lib.hid hG
            have hs4 := Lib.hid (hsm.out _ _ hX4 hG)
            clear hdg hE4 hX3 hG hsm
            go_wp2_with fail
            refine hs4.out.mono ?_
            rintro e w5 ⟨hp5, hE5⟩
            rw [if_pos Hf2.out] at hp5
            obtain ⟨vs5, rfl, _⟩ := hp5
            have hX5 := hX4.trans hE5
            replace hcv := hE5.cell hcv
            replace HG := Lib.hid (HG.out.ext hE5)
            clear hE5 hX4 hs4
            go_wp2_with fail
            go_loopw [16, 17, 18, 70] (fun _ _ _ kv wr => ∃ k : Nat, k ≤ 2 ∧ kv = .int .i64 k ∧ Hid ((0 < k → uL = true) ∧ (1 < k → uR = true)) ∧ Ext w5 wr) (fun _ _ _ kv _ => 2 - (intOf kv).toNat)
            case atStart => exact ⟨0, by omega, by go_num, Lib.hid ⟨fun h => by omega, fun h => by omega⟩, Ext.refl _⟩
            case round =>
              obtain ⟨k, hk, rfl, Hu, hE⟩ := hrel
              generalize wr = Y at *
              rcases (show k = 0 ∨ k = 1 ∨ k = 2 by omega) with rfl | rfl | rfl
              · rw [show ((0 : Nat) : Int) = 0 from rfl]
                clear hj1
                go_wp2_with fail
                refine (hul.out _ (by first | rfl | trivial) (hX5.trans hE)).mono ?_
                rintro e w6 ⟨rfl, hE6⟩
                have hX6 := hE.trans hE6
                clear hj0 hE6
                cases uL
                · have Hr := Lib.hid (show q = 23 by rw [Hq2.out, if_neg (by rintro ⟨a, _⟩; cases a)])
                  go_wp2_with fail
                  go_ret
                  exact ⟨by rw [Hr.out]; rfl, hX5.trans hX6⟩
                · go_wp2_with fail
                  go_roundw
                  case rel => exact ⟨1, by omega, by go_num, Lib.hid ⟨fun _ => (by first | rfl | trivial), fun h => by omega⟩, hX6⟩
                  case measure => simp [intOf]
              · rw [show ((1 : Nat) : Int) = 1 from rfl]
                obtain rfl := Hu.out.1 (by omega)
                clear hj0
                go_wp2_with fail
                refine (hur.out _ (by first | rfl | trivial) (hX5.trans hE)).mono ?_
                rintro e w6 ⟨rfl, hE6⟩
                have hX6 := hE.trans hE6
                clear hj1 hE6
                cases uR
                · have Hr := Lib.hid (show q = 23 by rw [Hq2.out, if_neg (by rintro ⟨_, a, _⟩; cases a)])
                  go_wp2_with fail
                  go_ret
                  exact ⟨by rw [Hr.out]; rfl, hX5.trans hX6⟩
                · go_wp2_with fail
                  go_roundw
                  case rel => exact ⟨2, by omega, by go_num, Lib.hid ⟨fun _ => (by first | rfl | trivial), fun _ => (by first | rfl | trivial)⟩, hX6⟩
                  case measure => simp [intOf]
              · rw [show ((2 : Nat) : Int) = 2 from rfl]
                obtain rfl := Hu.out.1 (by omega)
                obtain rfl := Hu.out.2 (by omega)
                have hX6 := hX5.trans hE
                replace hcv := hE.cell hcv
                replace HG := Lib.hid (HG.out.ext hE)
                clear hj0 hj1 hE hX5 Hu hul hur
                go_wp2_with fail
                refine (hbl.out _ hX6).mono ?_
                rintro e w7 ⟨v7, a7, rfl, hG7, hE7⟩
                have H7 := Lib.hid hG7.gridR
                have hX7 := hX6.trans hE7
                replace hcv := hE7.cell hcv
                replace HG := Lib.hid (HG.out.ext hE7)
                clear hG7 hE7 hX6 hbl
                go_wp2_with fail
                refine (hbm.out _ hX7).mono ?_
                rintro e w8 ⟨v8, a8, rfl, hG8, hE8⟩
                have H8 := Lib.hid hG8.gridR
                have hX8 := hX7.trans hE8
                replace hcv := hE8.cell hcv
                replace HG := Lib.hid (HG.out.ext hE8)
                replace H7 := Lib.hid (H7.out.ext hE8)
                clear hG8 hE8 hX7 hbm
                go_wp2_with fail
                refine (ht1.out _ _ _ (by first | rfl | trivial) hX8 H7.out H8.out).mono ?_
                rintro e w9 ⟨v9, rfl, hG9, hE9⟩
                have H9 := Lib.hid hG9.grid
                have hX9 := hX8.trans hE9
                replace hcv := hE9.cell hcv
                replace HG := Lib.hid (HG.out.ext hE9)
                clear hG9 hE9 hX8 ht1 H7 H8
                go_wp2_with fail
                refine (hbr.out _ hX9).mono ?_
                rintro e w10 ⟨v10, a10, rfl, hG10, hE10⟩
                have H10 := Lib.hid hG10.gridR
                have hX10 := hX9.trans hE10
                replace hcv := hE10.cell hcv
                replace HG := Lib.hid (HG.out.ext hE10)
                replace H9 := Lib.hid (H9.out.ext hE10)
                clear hG10 hE10 hX9 hbr
                go_wp2_with fail
                refine (ht2.out _ _ _ (by first | rfl | trivial) hX10 H9.out H10.out).mono ?_
                rintro e w11 ⟨v11, rfl, hG11, hE11⟩
                have H11 := Lib.hid hG11.grid
                have hX11 := hX10.trans hE11
                replace hcv := hE11.cell hcv
                replace HG := Lib.hid (HG.out.ext hE11)
                have he := Lib.hid (heq.out _ _ _ H11.out HG.out)
                clear hG11 hE11 hX10 ht2 H9 H10 heq
                rcases Nat.eq_zero_or_pos c with hc0 | hc0
                · have Hr := Lib.hid (show q = 0 by rw [Hq2.out, if_pos (by simp [hc0])])
                  have hcI : ¬ (0 : Int) < (c : Int) := by omega
                  clear he hc0
                  go_wp2_with fail
                  go_ret
                  exact ⟨by rw [Hr.out]; rfl, hX11⟩
                · have hcI : (0 : Int) < (c : Int) := by omega
                  by_cases hpe : mulM (mulM L M c) R c = F'
                  · have Hr := Lib.hid (show q = 0 by rw [Hq2.out, if_pos (by simp [hpe])])
                    rw [decide_eq_true hpe] at he
                    clear hpe
                    go_wp2_with fail
                    refine he.out.mono ?_
                    rintro e w12 ⟨rfl, hE12⟩
                    go_wp2_with fail
                    go_ret
                    exact ⟨by rw [Hr.out]; rfl, hX11.trans hE12⟩
                  · have Hr := Lib.hid (show q = 23 by rw [Hq2.out, if_neg (by rintro ⟨_, _, a⟩; rcases a with a | a; exact absurd a (by omega); exact hpe a)])
                    rw [decide_eq_false hpe] at he
                    clear hpe
                    go_wp2_with fail
                    refine he.out.mono ?_
                    rintro e w12 ⟨rfl, hE12⟩
                    go_wp2_with fail
                    go_ret
                    exact ⟨by rw [Hr.out]; rfl, hX11.trans hE12⟩
end Go.Proofs.YtokjolmpdfmnbaaGreatDoor
