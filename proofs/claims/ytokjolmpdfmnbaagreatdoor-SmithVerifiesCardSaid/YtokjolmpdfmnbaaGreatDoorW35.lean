/- Part 35 of the proof of the claim: contracts of the functions that it reaches, and plain laws; no condition. -/
import Derived.Test.YtokjolmpdfmnbaaGreatDoorW17
import Derived.Test.YtokjolmpdfmnbaaGreatDoorW18
import Derived.Test.YtokjolmpdfmnbaaGreatDoorW34
import Derived.BigQuiet
import Derived.Test.YtokjolmpdfmnbaaGreatDoorW26
import Derived.Test.YtokjolmpdfmnbaaGreatDoorW11
import Derived.Test.YtokjolmpdfmnbaaGreatDoorW30
namespace Go.Proofs.YtokjolmpdfmnbaaGreatDoor
open Go.RowKit Go.Sort
structure MuOk (A B : Mx) (c : Nat) : Prop where
  lb : B.length ≤ 3
  c3 : c ≤ 3
  la : A.length ≤ 3
  ra : Rect B.length A
  rb : Rect c B
  sz : ∃ p q : Nat, p * q ≤ 100000000000000000 ∧ (∀ i k, (eM A i k).natAbs ≤ p) ∧ ∀ i k, (eM B i k).natAbs ≤ q
theorem MuOk.term {A B : Mx} {c : Nat} (h : MuOk A B c) {i : Nat} (hi : i < A.length) (t j : Nat) : (vr A[i] t * eM B t j).natAbs ≤ 100000000000000000 := by
  obtain ⟨p, q, h1, h2, h3⟩ := h.sz
  have e : vr A[i] t = eM A i t := by unfold eM vr; rw [getD_get hi]
  rw [e, Int.natAbs_mul]
  exact Nat.le_trans (Nat.mul_le_mul (h2 _ _) (h3 _ _)) h1
theorem MuOk.sum {A B : Mx} {c : Nat} (h : MuOk A B c) {i : Nat} (hi : i < A.length) (j : Nat) {k : Nat} (hk : k ≤ 3) : (sumZ (fun t => vr A[i] t * eM B t j) k).natAbs ≤ 300000000000000000 := by
  have := sumZ_abs (f := fun t => vr A[i] t * eM B t j) (fun t => h.term hi t j) k
  omega
set_option maxRecDepth 100000 in
set_option maxHeartbeats 4000000 in
theorem Mul08_any {w : World} {va vb : Value} {A B : Mx} {c : Nat} (hA : MatR w va A) (hB : MatR w vb B) (h : MuOk A B c) (hcB : ncols B = c) :
    Calls Tryz.prog 21 #[va, vb] w fun e w' => ∃ v, e = .returned v ∧ MatO w.heap.size w' v (mulM A B c) ∧ Ext w w' := by
  have hco := Lib.hid (fun W (hW : Ext w W) => Columns08_any (hB.ext hW))
  rw [hcB] at hco
  obtain ⟨sa, ga, oa, ca, vsa, rfl, hca, hvla, hSa, hra⟩ := hA
  obtain ⟨sb, gb, ob, cb, vsb, rfl, hcb, hvlb, hSb, hrb⟩ := hB
  obtain ⟨nA, hnA⟩ : ∃ nA, nA = A.length := ⟨_, rfl⟩
  obtain ⟨nB, hnB⟩ : ∃ nB, nB = B.length := ⟨_, rfl⟩
  have hB3 : nB ≤ 3 := by rw [hnB]; exact h.lb
  have hA3 : nA ≤ 3 := by rw [hnA]; exact h.la
  have hc3 := h.c3
  have HrowA := Lib.hid (fun k (hk : k < A.length) => MatR.row hSa hvla hra hk)
  have HrowB := Lib.hid (fun k (hk : k < B.length) => MatR.row hSb hvlb hrb hk)
  have HaA := Lib.hid hSa.addr
  have HaB := Lib.hid hSb.addr
  have Hvla := Lib.hid hvla
  have Hvlb := Lib.hid hvlb
  have HnA := Lib.hid hnA
  have HnB := Lib.hid hnB
  have H := Lib.hid h
  obtain ⟨i0, hi, hz0, hz1, hz2⟩ := info_parts Tryz.infoInt
  have Hi := Lib.hid hi
  have Hz0 := Lib.hid hz0
  have Hz1 := Lib.hid hz1
  have Hz2 := Lib.hid hz2
  rw [← hnA] at hca ⊢
  rw [← hnB] at hcb hco ⊢
  clear hSa hSb hra hrb hvla hvlb hnA hnB h hcB hi hz0 hz1 hz2
  go_enter Tryz.func21, Tryz.ntmps21
  go_wp2_with fail
  go_loopw [5, 6] (fun ov iv wr => ∃ i : Nat, i ≤ nA ∧ iv = .int .i64 i ∧ Hid (MatO w.heap.size wr ov ((mulM A B c).take i)) ∧ Ext w wr) (fun _ iv _ => nA - (intOf iv).toNat)
  case atStart => exact ⟨0, by omega, by go_num, Lib.hid (MatO.nil _ _), Ext.refl _⟩
  case round =>
    obtain ⟨i, hi, rfl, hO, hE⟩ := hrel
    generalize wr = X at *
    by_cases hlt : i < nA
    · have hii : (i : Int) < (nA : Int) := by omega
      have hiA : i < A.length := by rw [← HnA.out]; exact hlt
      obtain ⟨sr, br, or, cr, hcell, hcr, hSr⟩ := HrowA.out i hiA
      obtain rfl := HaA.out (by rw [Hvla.out]; omega)
      obtain ⟨l, hl⟩ : ∃ l, l = A[i] := ⟨_, rfl⟩
      have hll : l.length = nB := by rw [hl, H.out.ra _ (List.getElem_mem hiA), ← HnB.out]
      have Hterm := Lib.hid (show ∀ t j, (vr l t * eM B t j).natAbs ≤ 100000000000000000 by rw [hl]; exact H.out.term hiA)
      have Hsum := Lib.hid (show ∀ j k, k ≤ 3 → (sumZ (fun t => vr l t * eM B t j) k).natAbs ≤ 300000000000000000 by rw [hl]; exact fun j k => H.out.sum hiA j)
      rw [← hl] at hcell hcr hSr
      rw [hll] at hcell hcr
      have HSr := Lib.hid hSr
      have Hll := Lib.hid hll
      have Hil := Lib.hid (show ((mulM A B c).take i).length = i by rw [List.length_take, mulM_length, ← HnA.out]; omega)
      have Hsn := Lib.hid (show (mulM A B c).take i ++ [cbTo B l c nB 0] = (mulM A B c).take (i + 1) by rw [take_snocM (by rw [mulM_length]; exact hiA), mulM_get hiA, hl, HnB.out])
      clear hl hSr hll
      have hXw := hE.size
      go_wp2_with fail
      refine (hco.out _ hE).mono ?_
      rintro e w3 ⟨rfl, hE3⟩
      have hXE3 := hE.trans hE3
      have hO3 := Lib.hid (hO.out.ext hE3)
      go_wp2_with (at_make; refine wpList_make_full _ rfl _ _ 32 rfl w3.heap.size 3 i0 (.int .i64 0) 1 Tryz.underlying32 Hi.out Hz0.out Hz1.out .i64 .i64 _ _ c rfl rfl (by omega) (by omega) (by rw [Hz2.out]; omega) (by unfold maxLen; omega) (Nat.le_refl _) ?_; intro w1 hown1 hgrow1)
      have hE1 := ext_grown hgrow1
      have hb0 : OwnV 3 w3.heap.size w1 w3.heap.size c (is (List.replicate c 0)) := row_ownV (zero_row hown1) (by simp)
      obtain ⟨g, hg⟩ : ∃ g, g = w3.heap.size := ⟨_, rfl⟩
      rw [← hg] at hb0 ⊢
      have HO1 := Lib.hid hb0
      have hgle : w3.heap.size ≤ g := by omega
      clear hown1 hgrow1 hb0 hg hE3 hO
      go_wp2_with fail
      go_loopw [8] (fun kv wr => ∃ k : Nat, k ≤ nB ∧ kv = .int .i64 k ∧ Hid (OwnV 3 g wr g c (is (cbTo B l c k 0))) ∧ Ext w3 wr) (fun kv _ => nB - (intOf kv).toNat)
      case atStart => exact ⟨0, by omega, by go_num, Lib.hid (by rw [cbTo_zero]; exact HO1.out), hE1⟩
      case round =>
        clear HO1 hE1
        obtain ⟨k, hk, rfl, hO, hE2⟩ := hrel
        generalize wr = Y at *
        have hEY := hXE3.trans hE2
        by_cases hlt : k < nB
        · have hki : (k : Int) < (nB : Int) := by omega
          have hkB : k < B.length := by rw [← HnB.out]; exact hlt
          obtain ⟨sk, bk, ok, ck, hcellk, hck, hSk⟩ := HrowB.out k hkB
          obtain rfl := HaB.out (by rw [Hvlb.out, ← HnB.out]; omega)
          have hrl : B[k].length = c := H.out.rb _ (List.getElem_mem hkB)
          rw [hrl] at hcellk hck
          have HSk := Lib.hid hSk
          have Hrl := Lib.hid hrl
          have hcX := hEY.cell hcellk
          clear hSk hrl
          go_wp2_with fail
          go_loopw [9] (fun jv wr => ∃ j : Nat, j ≤ c ∧ jv = .int .i64 j ∧ Hid (OwnV 3 g wr g c (is (cbTo B l c k j))) ∧ Ext w3 wr) (fun jv _ => c - (intOf jv).toNat)
          case atStart => exact ⟨0, by omega, by go_num, hO, hE2⟩
          case round =>
            clear hO hE2 hEY hcX
            obtain ⟨j, hj, rfl, hO, hE2⟩ := hrel
            generalize wr = Z at *
            have hEZ := hXE3.trans hE2
            have hcX := hEZ.cell hcellk
            by_cases hlt2 : j < c
            · have hji : (j : Int) < (c : Int) := by omega
              have c1 := hO.out.cell (j := j) (by rw [is_length, cbTo_length]; exact hlt2)
              obtain ⟨a, ha⟩ : ∃ a, a = sumZ (fun t => vr l t * eM B t j) k := ⟨_, rfl⟩
              have h1 : (is (cbTo B l c k j))[j]'(by rw [is_length, cbTo_length]; exact hlt2) = .int .i64 a := by
                have := cbTo_get B l (k := k) (j := j) hlt2
                rw [if_neg (by omega), Int.add_zero] at this
                rw [ha, ← this]; simp [is]
              rw [h1] at c1
              obtain ⟨b, hb⟩ : ∃ b, b = vr l k := ⟨_, rfl⟩
              obtain ⟨d, hd⟩ : ∃ d, d = eM B k j := ⟨_, rfl⟩
              have c2 := (HSr.out.ext hEZ).cell k (.int .i64 b) (by
                have hkl : k < l.length := by rw [Hll.out]; exact hlt
                rw [hb, is_get hkl]; unfold vr; rw [getD_get hkl])
              have c3 := (HSk.out.ext hEZ).cell j (.int .i64 d) (by
                have hjl : j < B[k].length := by rw [Hrl.out]; exact hlt2
                rw [hd, is_get hjl]; unfold eM; rw [getD_get hkB, getD_get hjl])
              have c4 := hEZ.cell hcell
              obtain rfl := HSr.out.addr (by rw [is_length, Hll.out]; omega)
              obtain rfl := HSk.out.addr (by rw [is_length, Hrl.out]; omega)
              have m1 := Hterm.out k j
              have m2 := Hsum.out j k (by omega)
              have Hst := Lib.hid (cbTo_step B l (c := c) (k := k) (j := j))
              rw [← ha, ← hb, ← hd] at Hst
              rw [← hb, ← hd] at m1
              rw [← ha] at m2
              have w1' : IntKind.i64.wrap (b * d) = b * d := IntWalk.i64_in _ (by omega)
              have w2' : IntKind.i64.wrap (a + b * d) = a + b * d := IntWalk.i64_in _ (by omega)
              have k1 := cell_regrown c1
              have k2 := cell_regrown c2
              have k3 := cell_regrown c3
              have k4 := cell_regrown hcX
              have k5 := cell_regrown c4
              have q1 := c1
              clear ha hb hd h1 m1 m2
              go_wp2_with fail
              refine wp_region_quiet_tail 20 (by kernel_rfl) (by kernel_rfl) ?_
              simp only [List.take_succ_cons, List.take_zero, List.drop_succ_cons, List.drop_zero]
              repeat (go_big_quiet_step (fail))
              refine wpQuiet_nil ?_
              intro _ hw'
              obtain ⟨⟨dq, osq⟩, hw''⟩ := hw'
              subst hw''
              have hE5 := ext_regrown Z dq osq
              have d5 := hE5.cell q1
              clear k1 k2 k3 k4 k5
              generalize grow (redrawn Z dq) osq = w5 at *
              have f5 := (hO.out.ext hE5).frozen j
              obtain ⟨hO6, hG6⟩ := (hO.out.ext hE5).set j (.int .i64 (a + b * d))
              rw [← is_set, Hst.out] at hO6
              have HO6 := Lib.hid hO6
              have hE6 := Lib.hid (ext_trans_grown (hE2.trans hE5) hG6 hgle)
              clear hO6 hG6 hE5
              go_wp2_with fail
              go_roundw
              case rel => exact ⟨j + 1, by omega, by go_num, HO6, hE6.out⟩
              case measure => simp [intOf] <;> omega
            · have hje : j = c := by omega
              have hji : ¬ (j : Int) < (c : Int) := by omega
              have HO7 := Lib.hid (show OwnV 3 g Z g c (is (cbTo B l c (k + 1) 0)) by have h2 := hO.out; rw [hje, cbTo_next] at h2; exact h2)
              clear hje
              go_wp2_with fail
              go_roundw
              case rel => exact ⟨k + 1, by omega, by go_num, HO7, hE2⟩
              case measure => simp [intOf] <;> omega
        · have hke : k = nB := by omega
          have hki : ¬ (k : Int) < (nB : Int) := by omega
          subst hke
          have hYV := Lib.hid (show RowV w.heap.size Y (.slice (some ⟨g, 0, none⟩) c c) (cbTo B l c k 0) by
            have h3 := hO.out.mono (show w.heap.size ≤ g by have := hXE3.size; omega)
            unfold OwnV at h3
            unfold RowV
            simpa [cbTo_length] using h3)
          have hOY := Lib.hid (hO3.out.ext hE2)
          have hYs := hEY.size
          clear hO hO3
          go_wp2_with (at_builtin; refine app_mat rfl _ _ rfl rfl (hOY.out.ext ((Ext.refl _).alloc _)) (b := Y.heap.size) (rv := .slice (some ⟨g, 0, none⟩) c c) (r := cbTo B l c k 0) (by go_simp) (by go_simp) (hYV.out.ext ((Ext.refl _).alloc _)) (by rw [Hil.out]; omega) (by simp; omega) ?_; intro gg cap2 w8 hO8 hB8 hG8; rw [Hsn.out, Hil.out] at hO8; rw [Hil.out])
          have hE8 : Ext w w8 := Below.trans (hEY.alloc (.cells #[.slice (some ⟨g, 0, none⟩) c c] 32)) hB8
          have HO8 := Lib.hid hO8
          clear hO8 hB8 hG8
          go_wp2_with fail
          go_roundw
          case rel => exact ⟨i + 1, by omega, by go_num, HO8, hE8⟩
          case measure => simp [intOf] <;> omega
    · have hie : i = nA := by omega
      have hii : ¬ (i : Int) < (nA : Int) := by omega
      subst hie
      have hO2 := hO.out
      rw [List.take_of_length_le (by rw [mulM_length, ← HnA.out]; exact Nat.le_refl _)] at hO2
      have HO2 := Lib.hid hO2
      clear hO hO2
      go_wp2_with fail
      go_ret
      exact ⟨_, rfl, HO2.out, hE⟩
def unimB (M : Mx) (n : Nat) : Bool := squareB M n && uniB M n
set_option maxRecDepth 100000 in
theorem unimod08_any {w : World} {v : Value} {M : Mx} {n B : Nat} (hM : MatR w v M) (hR : Rect (ncols M) M) (hn : n ≤ 3) (hB : 1 ≤ B) (hE : EntB B M) (hd : dB8 B n ≤ 1000000000000000000) (hl : M.length ≤ 12) (_ : ncols M ≤ 12) :
    Calls Tryz.prog 19 #[v, .int .i64 n] w fun e w' => e = .returned (.bool (unimB M n)) ∧ Ext w w' := by
  have hsq : squareB M n = true ↔ M.length = n ∧ (0 < n → ncols M = n) := by
    rw [squareB_iff]
    constructor
    · rintro ⟨h1, h2⟩
      exact ⟨h1, fun h => ncols_of (by omega) h2⟩
    · rintro ⟨h1, h2⟩
      refine ⟨h1, fun r hr => ?_⟩
      have := List.length_pos_of_mem hr
      rw [hR r hr]; exact h2 (by omega)
  have hdet := Lib.hid (fun (h1 : M.length = n) (h2 : Rect n M) => Det08_any hB n w v M hM h1 h2 (by omega) hE hd)
  obtain ⟨sa, ga, oa, ca, vs, rfl, hca, hvl, hS, hr⟩ := hM
  have Hrow := Lib.hid (fun (h : 0 < M.length) => MatR.row hS hvl hr h)
  have Haddr := Lib.hid (fun (h : 0 < M.length) => hS.addr (by omega))
  obtain ⟨N, hN⟩ : ∃ N, N = M.length := ⟨_, rfl⟩
  obtain ⟨c, hcd⟩ : ∃ c, c = ncols M := ⟨_, rfl⟩
  rw [← hN] at hdet hsq Haddr hca hl ⊢
  rw [← hcd] at hsq hR
  have Hnc := Lib.hid (fun (h : 0 < M.length) => hR _ (List.getElem_mem h))
  have HN := Lib.hid hN
  have Hsq := Lib.hid hsq
  have Hs1 := Lib.hid (fun h => (squareB_iff (M := M) (n := n)).1 h)
  clear hS hr hvl hR hE hd hN hcd hsq
  by_cases h1 : N = n
  · subst h1
    rcases Nat.eq_zero_or_pos N with h0 | h0
    · subst h0
      have hq : squareB M 0 = true := Hsq.out.2 ⟨rfl, fun h => by omega⟩
      have hu : unimB M 0 = true := by unfold unimB; rw [hq]; rfl
      rw [hu]
      have hdt := Lib.hid (hdet.out rfl (Hs1.out hq).2)
      rw [show detF 0 M = 1 from rfl] at hdt
      clear hdet hq hu
      go_enter Tryz.func19, Tryz.ntmps19
      go_wp2_with fail
      refine hdt.out.mono ?_
      rintro e w1 ⟨rfl, hE1⟩
      go_wp2_with fail
      go_ret
      exact ⟨rfl, hE1⟩
    · have hNI : (0 : Int) < (N : Int) := by omega
      obtain ⟨sr, br, or, cr, hcell, _, _⟩ := Hrow.out (by rw [← HN.out]; exact h0)
      rw [Hnc.out (by rw [← HN.out]; exact h0), Nat.add_zero] at hcell
      obtain rfl := Haddr.out h0
      by_cases h2 : c = N
      · subst h2
        have hq : squareB M c = true := Hsq.out.2 ⟨rfl, fun _ => rfl⟩
        have hu : unimB M c = uniB M c := by unfold unimB; rw [hq]; rfl
        rw [hu]
        have hdt := Lib.hid (hdet.out rfl (Hs1.out hq).2)
        unfold uniB
        obtain ⟨d, hd⟩ : ∃ d, d = detF c M := ⟨_, rfl⟩
        rw [← hd] at hdt ⊢
        clear hdet hq hu hd
        by_cases d1 : d = 1
        · rw [decide_eq_true (.inl d1)]
          subst d1
          go_enter Tryz.func19, Tryz.ntmps19
          go_wp2_with fail
          refine hdt.out.mono ?_
          rintro e w1 ⟨rfl, hE1⟩
          go_wp2_with fail
          go_ret
          exact ⟨rfl, hE1⟩
        · by_cases d2 : d = -1
          · rw [decide_eq_true (.inr d2)]
            subst d2
            go_enter Tryz.func19, Tryz.ntmps19
            go_wp2_with fail
            refine hdt.out.mono ?_
            rintro e w1 ⟨rfl, hE1⟩
            go_wp2_with fail
            go_ret
            exact ⟨rfl, hE1⟩
          · rw [decide_eq_false (by rintro (a | a); exact d1 a; exact d2 a)]
            have b1 : (d == 1) = false := beq_eq_false_iff_ne.2 d1
            have b2 : (d == -1) = false := beq_eq_false_iff_ne.2 d2
            go_enter Tryz.func19, Tryz.ntmps19
            go_wp2_with fail
            refine hdt.out.mono ?_
            rintro e w1 ⟨rfl, hE1⟩
            go_wp2_with fail
            go_ret
            exact ⟨rfl, hE1⟩
      · have hq : squareB M N = false := by
          cases hb : squareB M N
          · rfl
          · exact absurd ((Hsq.out.1 hb).2 h0) h2
        have hu : unimB M N = false := by unfold unimB; rw [hq]; rfl
        rw [hu]
        have hcI : ¬ (c : Int) = (N : Int) := by omega
        have hcb : ((c : Int) == (N : Int)) = false := beq_eq_false_iff_ne.2 hcI
        have hcb2 : ((c : Int) != (N : Int)) = true := by simp [bne, hcb]
        clear hdet hq hu
        go_enter Tryz.func19, Tryz.ntmps19
        go_wp2_with fail
        go_ret
        exact ⟨rfl, Ext.refl _⟩
  · have hq : squareB M n = false := by
      cases hb : squareB M n
      · rfl
      · exact absurd (Hsq.out.1 hb).1 h1
    have hu : unimB M n = false := by unfold unimB; rw [hq]; rfl
    rw [hu]
    have hcI : ¬ (N : Int) = (n : Int) := by omega
    have hcb : ((N : Int) == (n : Int)) = false := beq_eq_false_iff_ne.2 hcI
    have hcb2 : ((N : Int) != (n : Int)) = true := by simp [bne, hcb]
    clear hdet hq hu
    go_enter Tryz.func19, Tryz.ntmps19
    go_wp2_with fail
    go_ret
    exact ⟨rfl, Ext.refl _⟩
end Go.Proofs.YtokjolmpdfmnbaaGreatDoor
namespace Go.Proofs.YtokjolmpdfmnbaaGreatDoor
open Go.RowKit Go.Sort
theorem mx_getD_ext8 {A B : Mx} (hl : A.length = B.length) (h : ∀ j, j < A.length → A.getD j [] = B.getD j []) : A = B := by
  refine List.ext_getElem hl fun j h1 h2 => ?_
  have := h j h1
  rwa [getD_get h1, getD_get h2] at this
set_option maxRecDepth 100000 in
set_option maxHeartbeats 2000000 in
theorem Equal08_any {w : World} {va vb : Value} {A B : Mx} (hA : MatR w va A) (hB : MatR w vb B) (hbig : A.length ≤ 1000000) (hbr : ∀ r ∈ A, r.length ≤ 1000000) :
    Calls Tryz.prog 20 #[va, vb] w fun e w' => e = .returned (.bool (decide (A = B))) ∧ Ext w w' := by
  obtain ⟨sa, ga, oa, ca, va', rfl, hca, hvA, hSa, hrA⟩ := hA
  obtain ⟨sb, gb, ob, cb, vb', rfl, hcb, hvB, hSb, hrB⟩ := hB
  by_cases hl : A.length = B.length
  · obtain ⟨n, hn⟩ : ∃ n, n = A.length := ⟨_, rfl⟩
    rw [← hl]
    rw [← hn] at hbig ⊢
    have HA := Lib.hid hSa
    have HB := Lib.hid hSb
    have HvA := Lib.hid hvA
    have HvB := Lib.hid hvB
    have HrA := Lib.hid hrA
    have HrB := Lib.hid hrB
    have Hn := Lib.hid hn
    have Hm := Lib.hid (hn.trans hl)
    have Hbr := Lib.hid hbr
    clear hSa hSb hl hn hca hcb hvA hvB hrA hrB hbr
    go_enter Tryz.func20, Tryz.ntmps20
    go_wp2_with fail
    go_loopw [5] (fun idx wr => ∃ i : Nat, i ≤ n ∧ idx = .int .i64 i ∧ Hid (∀ j, j < i → A.getD j [] = B.getD j []) ∧ Ext w wr) (fun idx _ => n - (intOf idx).toNat)
    case atStart => exact ⟨0, by omega, by go_num, Lib.hid (fun j h => by omega), Ext.refl _⟩
    case round =>
      obtain ⟨i, hi, rfl, Hz, hE⟩ := hrel
      generalize wr = X at *
      by_cases hlt : i < n
      · have hii : (i : Int) < (n : Int) := by omega
        have hiA : i < A.length := by rw [← Hn.out]; exact hlt
        have hiB : i < B.length := by rw [← Hm.out]; exact hlt
        obtain ⟨sx, bx, ox, cx, hrx, hcx, hSx⟩ := MatR.row HA.out HvA.out HrA.out hiA
        obtain ⟨sy, by', oy, cy, hry, hcy, hSy⟩ := MatR.row HB.out HvB.out HrB.out hiB
        obtain rfl := HA.out.addr (by rw [HvA.out]; omega)
        obtain rfl := HB.out.addr (by rw [HvB.out]; omega)
        have k1 := hE.cell hrx
        have k2 := hE.cell hry
        have hx1 : RowR X (.slice sx A[i].length cx) A[i] := ⟨sx, bx, ox, cx, rfl, hcx, hSx.ext hE⟩
        have hy1 : RowR X (.slice sy B[i].length cy) B[i] := ⟨sy, by', oy, cy, rfl, hcy, hSy.ext hE⟩
        obtain ⟨lx, hlx⟩ : ∃ l, l = A[i].length := ⟨_, rfl⟩
        obtain ⟨ly, hly⟩ : ∃ l, l = B[i].length := ⟨_, rfl⟩
        rw [← hlx] at k1 hx1
        rw [← hly] at k2 hy1
        clear hlx hly
        have hEQ := Lib.hid (fun W (hW : Ext X W) => Same08_any (hx1.ext hW) (hy1.ext hW) (Hbr.out _ (List.getElem_mem hiA)))
        have HxA := Lib.hid (show A.getD i [] = A[i] from getD_get hiA [])
        have HxB := Lib.hid (show B.getD i [] = B[i] from getD_get hiB [])
        obtain ⟨q, hq⟩ : ∃ q, q = decide (A[i] = B[i]) := ⟨_, rfl⟩
        rw [← hq] at hEQ
        have Hq := Lib.hid hq
        clear hrx hry hcx hcy hSx hSy hq hx1 hy1
        have d7 : Ext X X.drew := (Ext.refl X).drew
        go_wp2_with fail
        refine wp_region_held_tail (S := fun W => Ext X W) 8 (by kernel_rfl) (by simp) ?_
        intro inv
        refine wpAnyLH_take (i := 0) (v := .slice (some ⟨ga, oa, none⟩) n ca) rfl (by kernel_rfl) (fun _ _ _ h => h) (.inl ⟨by rfl, fun W hW => by go_simp⟩) d7 inv ?_
        intro inv
        go_simp
        refine wpAnyLH_take (i := 1) (v := .int .i64 i) rfl (by kernel_rfl) (fun _ _ _ h => h) (.inl ⟨by rfl, fun W hW => by go_simp⟩) d7 inv ?_
        intro inv
        go_simp
        refine wpAnyLH_take (i := 2) (v := .pointer (some ⟨ga, oa + i, none⟩)) rfl (by kernel_rfl) (fun _ _ _ h => h) (.inl ⟨by rfl, fun W hW => by go_simp⟩) d7 inv ?_
        intro inv
        go_simp
        refine wpAnyLH_take (i := 3) (v := .slice sx lx cx) rfl (by kernel_rfl) (fun _ _ _ h => h) (.inl ⟨by rfl, fun W hW => by have z0 := hW.cell k1; go_simp⟩) d7 inv ?_
        intro inv
        go_simp
        refine wpAnyLH_take (i := 4) (v := .slice (some ⟨gb, ob, none⟩) n cb) rfl (by kernel_rfl) (fun _ _ _ h => h) (.inl ⟨by rfl, fun W hW => by go_simp⟩) d7 inv ?_
        intro inv
        go_simp
        refine wpAnyLH_take (i := 5) (v := .int .i64 i) rfl (by kernel_rfl) (fun _ _ _ h => h) (.inl ⟨by rfl, fun W hW => by go_simp⟩) d7 inv ?_
        intro inv
        go_simp
        refine wpAnyLH_take (i := 6) (v := .pointer (some ⟨gb, ob + i, none⟩)) rfl (by kernel_rfl) (fun _ _ _ h => h) (.inl ⟨by rfl, fun W hW => by go_simp⟩) d7 inv ?_
        intro inv
        go_simp
        refine wpAnyLH_take (i := 7) (v := .slice sy ly cy) rfl (by kernel_rfl) (fun _ _ _ h => h) (.inl ⟨by rfl, fun W hW => by have z0 := hW.cell k2; go_simp⟩) d7 inv ?_
        intro inv
        go_simp
        refine wpAnyLH_end (by kernel_rfl) ?_
        have hEQ2 := Lib.hid (hEQ.out _ d7)
        cases q
        · have Hne := Lib.hid (show decide (A = B) = false from decide_eq_false (fun e => by
            have := Hq.out.symm
            rw [decide_eq_false_iff_not] at this
            exact this (by rw [← HxA.out, ← HxB.out, e])))
          clear Hq HxA HxB hEQ
          go_wp2_with fail
          refine hEQ2.out.mono ?_
          rintro e W6 ⟨rfl, hE6⟩
          have hE2 := hE.trans (d7.trans hE6)
          clear k1 k2 hEQ2 d7
          go_wp2_with fail
          go_ret
          exact ⟨by rw [Hne.out]; rfl, hE2⟩
        · have Hok := Lib.hid (show A.getD i [] = B.getD i [] by rw [HxA.out, HxB.out]; exact of_decide_eq_true Hq.out.symm)
          have Hz2 := Lib.hid (show ∀ j, j < i + 1 → A.getD j [] = B.getD j [] from fun j hj => by
            by_cases e : j = i
            · subst e; exact Hok.out
            · exact Hz.out j (by omega))
          clear Hq HxA HxB hEQ
          go_wp2_with fail
          refine hEQ2.out.mono ?_
          rintro e W6 ⟨rfl, hE6⟩
          have hE2 := hE.trans (d7.trans hE6)
          clear k1 k2 hEQ2 d7
          go_wp2_with fail
          go_roundw
          case rel => exact ⟨i + 1, by omega, by go_num, Hz2, hE2⟩
          case measure => simp [intOf] <;> omega
      · have hie : i = n := by omega
        have hii : ¬ (i : Int) < (n : Int) := by omega
        have Heq := Lib.hid (show decide (A = B) = true from decide_eq_true (mx_getD_ext8 (by rw [← Hn.out, ← Hm.out]) (fun j hj => Hz.out j (by rw [← Hn.out] at hj; omega))))
        go_wp2_with fail
        go_ret
        exact ⟨by rw [Heq.out]; rfl, hE⟩
  · have hne : decide (A = B) = false := decide_eq_false (fun e => hl (by rw [e]))
    rw [hne]
    have h1 : ¬ ((A.length : Int) = (B.length : Int)) := by omega
    have h2 : ((A.length : Int) == (B.length : Int)) = false := beq_eq_false_iff_ne.2 h1
    have h3 : ((A.length : Int) != (B.length : Int)) = true := by simp [bne, h2]
    clear hSa hSb hca hcb hne hvA hvB hrA hrB hbr
    generalize A.length = n at *
    generalize B.length = m at *
    go_enter Tryz.func20, Tryz.ntmps20
    go_wp2_with fail
    go_ret
    exact ⟨rfl, Ext.refl _⟩
end Go.Proofs.YtokjolmpdfmnbaaGreatDoor
namespace Go.Proofs.YtokjolmpdfmnbaaGreatDoor
open Go.RowKit Go.Sort
def mT (r : List Int) (k : Nat) : List Int := r.mapIdx fun s z => if s < k then z.tmod 5 else z
@[simp] theorem mT_length (r : List Int) (k : Nat) : (mT r k).length = r.length := by simp [mT]
theorem mT_get {r : List Int} {k s : Nat} (h : s < r.length) : (mT r k)[s]'(by simpa using h) = if s < k then r[s].tmod 5 else r[s] := by simp [mT]
theorem mT_zero (r : List Int) : mT r 0 = r := List.ext_getElem (by simp) fun i h1 h2 => by rw [mT_get h2, if_neg (by omega)]
theorem mT_step {r : List Int} {k : Nat} (h : k < r.length) : (mT r k).set k (r[k].tmod 5) = mT r (k + 1) := List.ext_getElem (by simp) fun i h1 h2 => by
  have hi : i < r.length := by simpa using h2
  rw [List.getElem_set, mT_get hi, mT_get hi]
  by_cases e : k = i
  · subst e; rw [if_pos rfl, if_pos (by omega)]
  · rw [if_neg e]
    by_cases h3 : i < k
    · rw [if_pos h3, if_pos (by omega)]
    · rw [if_neg h3, if_neg (by omega)]
theorem mT_all {r : List Int} {k : Nat} (h : r.length ≤ k) : mT r k = r.map (·.tmod 5) := List.ext_getElem (by simp) fun i h1 h2 => by
  have hi : i < r.length := by simpa using h1
  rw [mT_get hi, if_pos (by omega)]; simp
def modM (F : Mx) : Mx := F.map fun r => r.map (·.tmod 5)
@[simp] theorem modM_length (F : Mx) : (modM F).length = F.length := by simp [modM]
theorem modM_rect {c : Nat} {F : Mx} (h : Rect c F) : Rect c (modM F) := fun r hr => by
  obtain ⟨s, hs, rfl⟩ := List.mem_map.1 hr
  simpa using h s hs
theorem modM_ent (F : Mx) : ∀ r ∈ modM F, ∀ z ∈ r, -4 ≤ z ∧ z ≤ 4 := fun r hr z hz => by
  obtain ⟨s, hs, rfl⟩ := List.mem_map.1 hr
  obtain ⟨x, hx, rfl⟩ := List.mem_map.1 hz
  have h1 := Int.tmod_lt_of_pos x (b := 5) (by omega)
  have h2 := Int.lt_tmod_of_pos x (b := 5) (by omega)
  omega
def stM (F : Mx) (i k : Nat) : Mx := F.mapIdx fun t r => if t < i then r.map (·.tmod 5) else if t = i then mT r k else r
@[simp] theorem stM_length (F : Mx) (i k : Nat) : (stM F i k).length = F.length := by simp [stM]
theorem stM_get {F : Mx} {i k t : Nat} (h : t < F.length) : (stM F i k)[t]'(by simpa using h) = if t < i then F[t].map (·.tmod 5) else if t = i then mT F[t] k else F[t] := by simp [stM]
theorem stM_zero (F : Mx) : stM F 0 0 = F := List.ext_getElem (by simp) fun t h1 h2 => by
  rw [stM_get h2, if_neg (by omega)]
  split
  · exact mT_zero _
  · rfl
theorem stM_next {F : Mx} {i k : Nat} (h : i < F.length) (hk : k = F[i].length) : stM F i k = stM F (i + 1) 0 := List.ext_getElem (by simp) fun t h1 h2 => by
  have ht : t < F.length := by simpa using h1
  rw [stM_get ht, stM_get ht]
  rcases Nat.lt_trichotomy t i with a | a | a
  · rw [if_pos a, if_pos (by omega)]
  · subst a
    rw [if_neg (by omega), if_pos rfl, if_pos (by omega), mT_all (by omega)]
  · rw [if_neg (by omega), if_neg (by omega), if_neg (by omega)]
    split
    · rw [mT_zero]
    · rfl
theorem stM_set {F : Mx} {i k : Nat} (h : i < F.length) : (stM F i k).set i (mT F[i] (k + 1)) = stM F i (k + 1) := List.ext_getElem (by simp) fun t h1 h2 => by
  have ht : t < F.length := by simpa using h2
  rw [List.getElem_set, stM_get ht, stM_get ht]
  by_cases e : i = t
  · subst e; rw [if_pos rfl, if_neg (by omega), if_pos rfl]
  · rw [if_neg e]
    by_cases h3 : t < i
    · rw [if_pos h3, if_pos h3]
    · rw [if_neg h3, if_neg h3, if_neg (Ne.symm e), if_neg (Ne.symm e)]
theorem stM_all {F : Mx} {i : Nat} (h : F.length ≤ i) : stM F i 0 = modM F := List.ext_getElem (by simp) fun t h1 h2 => by
  have ht : t < F.length := by simpa using h1
  rw [stM_get ht, if_pos (by omega)]; simp [modM]
theorem MatX.other {B : Nat} {w w' : World} {v : Value} {n r : Nat} {F : Mx} {ad : List (Nat × Nat)} (h : MatX B w v n F ad) (hG : w.grownBy w' (some r)) (h1 : ∀ a ∈ ad, a.1 ≠ r) (h2 : v.ownBlock ≠ some r) : MatX B w' v n F ad :=
  ⟨h.len, h.rect, World.ownsRow.kept h.own hG (.inr h2), fun i a b => (h.row i a b).other hG (h1 _ (List.getElem_mem b)), h.dis⟩
theorem MatX.above {B : Nat} {w w' : World} {v : Value} {n r : Nat} {F : Mx} {ad : List (Nat × Nat)} (h : MatX B w v n F ad) (hG : w.grownBy w' (some r)) (hr : r < B) : MatX B w' v n F ad := by
  refine h.other hG (fun a ha => ?_) ?_
  · obtain ⟨i, hi, rfl⟩ := List.getElem_of_mem ha
    have := (h.row i (by rw [← h.len]; exact hi) hi).lt.1
    omega
  · rcases h.own.2 with ⟨rfl, _⟩ | ⟨g, cap, cur, rfl, hb, _⟩
    · simp [Value.ownBlock]
    · simp [Value.ownBlock]; omega
theorem MatX.below {B S : Nat} {w w' : World} {v : Value} {n r : Nat} {F : Mx} {ad : List (Nat × Nat)} (h : MatX B w v n F ad) (hG : w.grownBy w' (some r)) (hs : (∀ a ∈ ad, a.1 < S) ∧ ∀ g, v.ownBlock = some g → g < S) (hr : S ≤ r) : MatX B w' v n F ad := by
  refine h.other hG (fun a ha => by have := hs.1 a ha; omega) fun e => ?_
  have := hs.2 r e
  omega
theorem MatX.size {B : Nat} {w : World} {v : Value} {n : Nat} {F : Mx} {ad : List (Nat × Nat)} (h : MatX B w v n F ad) : (∀ a ∈ ad, a.1 < w.heap.size) ∧ ∀ g, v.ownBlock = some g → g < w.heap.size := by
  refine ⟨h.lt, fun g hg => ?_⟩
  exact (World.ownsRow.lt h.own g hg).2
theorem MatX.shp {B : Nat} {w : World} {v : Value} {n : Nat} {F : Mx} {ad : List (Nat × Nat)} (h : MatX B w v n F ad) : ∃ s c, v = .slice s F.length c ∧ F.length ≤ c ∧ (0 < F.length → ∃ g, s = some ⟨g, 0, none⟩) := by
  rcases h.own.2 with ⟨rfl, h0⟩ | ⟨g, cap, cur, rfl, hb, hg, hn, _⟩
  · rw [h0]; exact ⟨none, 0, rfl, Nat.le_refl _, fun h => by omega⟩
  · exact ⟨_, cap, rfl, hn, fun _ => ⟨g, rfl⟩⟩
end Go.Proofs.YtokjolmpdfmnbaaGreatDoor
