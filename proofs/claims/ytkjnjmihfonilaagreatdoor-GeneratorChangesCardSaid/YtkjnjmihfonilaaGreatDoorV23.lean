/- Part 23 of the proof of the claim: contracts of the functions that it reaches, and plain laws; no condition. -/
import Derived.Test.YtkjnjmihfonilaaGreatDoorV22
import Derived.Test.YtkjnjmihfonilaaGreatDoorV12
import Derived.Test.YtkjnjmihfonilaaGreatDoorV21
import Derived.Test.YtkjnjmihfonilaaGreatDoorV11
import Derived.BigQuiet
namespace Go.Proofs.YtkjnjmihfonilaaGreatDoor
open Go.RowKit Go.Sort
theorem bc_num1 : ∀ (N n : Fin 5), 2 * (2 * bC N.val 30 n.val + 2) + 2 < LIM := by decide +kernel
theorem ln1_all {M : Mx} (h : ∀ r ∈ M, ∀ z ∈ r, z.natAbs < 2 ^ 30) : AllL 30 (ln1 M) := fun i hi => by
  have hi' : i < M.length := by simpa using hi
  rw [getD_get hi]
  have : (ln1 M)[i] = (M[i], []) := by simp [ln1]
  rw [this]
  exact ⟨fun z hz => h _ (List.getElem_mem hi') z hz, fun z hz => by simp at hz⟩
theorem hnf_none (n : Nat) : HnfOf n [] [] := form_of1 (M := []) (ls := []) (ps := []) (d := 0) (fun r h => by simp at h) (Ops.refl _) ((FormTo.start []).full rfl (Nat.zero_le n))
theorem lform_mx {w0 w : World} {v : Value} {M : Mx} {ad : List (Nat × Nat)} {n : Nat} (h : LrX w0.heap.size w v M ad) (hR : Rect n M) (hb : ∀ r ∈ M, ∀ z ∈ r, z.natAbs < 2 ^ 30) (h0 : 0 < n) (hn : n ≤ 4) (hl : M.length ≤ 4) (hL : Laid w0) (hE : Ext w0 w) :
    Calls Tryz.prog 117 #[v, .int .i64 n] w fun e w' => ∃ v' F, e = .returned v' ∧ HnfOf n M F ∧ LgsR w' v' F ∧ Ext w0 w' := by
  obtain ⟨ga, cap, rfl, hcap, hga⟩ := h.shape
  rcases Nat.eq_zero_or_pos M.length with h00 | h00
  · obtain rfl : M = [] := List.length_eq_zero_iff.1 h00
    have hnil : ∀ (sa : Option Addr) (c : Nat) (W : World), LgsR W (.slice sa 0 c) [] := fun sa c W => ⟨sa, 0, 0, c, [], rfl, Nat.zero_le _, rfl, ⟨fun h => by simp at h, fun i v hv => by simp at hv⟩, fun i hi => by simp at hi⟩
    rcases h.own.2 with ⟨hv, _⟩ | ⟨g, cap', cur, hv, _⟩
    · rw [hv]
      refine lform_nil.mono ?_
      rintro e W1 ⟨rfl, hE1⟩
      exact ⟨_, _, rfl, hnf_none n, hnil _ _ _, hE.trans hE1⟩
    · rw [hv]
      refine lform_none.mono ?_
      rintro e W1 ⟨rfl, hE1⟩
      exact ⟨_, _, rfl, hnf_none n, hnil _ _ _, hE.trans hE1⟩
  · obtain ⟨g, rfl⟩ := hga h00
    have hG : Lr w0.heap.size w g cap M.length n ad (ln1 M) := ⟨by rw [rowsL_ln1]; exact h, by simp, ln1_dim hR⟩
    have hbc := bc_num1 ⟨M.length, by omega⟩ ⟨n, by omega⟩
    refine (lform_any (w0 := w0) (w := w) hG h00 h0 (by omega) (by omega) hcap (ln1_all hb) hbc hL hE).mono ?_
    rintro e W1 ⟨d, ps, ad', ls', rfl, hd, hG1, hF, hOp, hAl, hE1⟩
    exact ⟨_, _, rfl, form_of1 hR hOp hF, hG1.lgsTake h0 hd (by omega), hE1⟩
set_option maxRecDepth 100000 in
set_option maxHeartbeats 4000000 in
theorem Of_ok {w : World} {v : Value} {M : Mx} {n : Nat} (hM : MatR w v M) (hR : ∀ r ∈ M, chkRow r = 0 ∧ r.length = n) (h0 : 0 < n) (hn : n ≤ 4) (hl : M.length ≤ 4) (hs : SmK M) (hk : ∀ K, HnfOf n M K → SmK K) (hL : Laid w) :
    Calls Tryz.prog 71 #[.int .i64 n, v] w (LatPost w n (HnfOf n M)) := by
  have hre : Rect n M := fun r hr => (hR r hr).2
  have hck := Lib.hid (fun W (hW : Ext w W) => lat_check_ok (hM.ext hW) hR (by omega) (by omega))
  have hlo := Lib.hid (fun W (hW : Ext w W) => longsOf_any (hM.ext hW) hre h0 (by omega) (by omega) (fun r hr z hz => by have := hs r hr z hz; unfold I64; omega) (hL.ext hW))
  have hfo := Lib.hid (fun W W2 v1 ad (hW : Ext w W) (hW2 : Ext W W2) (h : LrX W.heap.size W2 v1 M ad) => lform_mx h hre (fun r hr z hz => by
    have := hs r hr z hz
    have e : (2 : Nat) ^ 30 = 1073741824 := by decide
    omega) h0 hn hl (hL.ext hW) hW2)
  have hsh := Lib.hid (fun W v1 K (hW : Ext w W) (h : LgsR W v1 K) (hK : HnfOf n M K) => by
    obtain ⟨qs, hq⟩ := hK.1
    have := isH_len hq
    exact lsshort_ok (n := n) h hq.rect (by omega) (by omega) (hk K hK).small (hk K hK).nd (hL.ext hW))
  have hX : Ext w (w.alloc (.cells #[.int .i64 0, .slice none 0 0] 94)) := (Ext.refl w).alloc _
  have HO := Lib.hid (lat_alloc w 94 (.int .i64 0) (.slice none 0 0))
  obtain ⟨bl, hbl⟩ : ∃ bl, bl = w.heap.size := ⟨_, rfl⟩
  have hbs2 : w.heap.size ≤ bl := by omega
  rw [show OwnV 94 w.heap.size (w.alloc (.cells #[.int .i64 0, .slice none 0 0] 94)) w.heap.size 2 [.int .i64 0, .slice none 0 0] = OwnV 94 w.heap.size (w.alloc (.cells #[.int .i64 0, .slice none 0 0] 94)) bl 2 [.int .i64 0, .slice none 0 0] by rw [hbl]] at HO
  clear hs hL hre hR
  go_enter Tryz.func71, Tryz.ntmps71
  go_wp2_with fail
  rw [← hbl]
  clear hbl
  refine (hck.out _ hX).mono ?_
  rintro e X ⟨rfl, hE1⟩
  replace HO := Lib.hid (HO.out.ext hE1)
  replace hX := hX.trans hE1
  clear hE1 hck
  go_wp2_with fail
  refine (hlo.out _ hX).mono ?_
  rintro e W1 ⟨v1, ad1, rfl, hg1, hF1⟩
  have hf := Lib.hid (hfo.out _ _ _ _ hX hF1 hg1)
  clear hg1 hlo
  go_wp2_with fail
  refine hf.out.mono ?_
  rintro e W2 ⟨v2, K, rfl, hK, hg2, hF2⟩
  have HK := Lib.hid hK
  have hs2 := Lib.hid (hsh.out _ _ _ (hX.trans hF2) hg2 hK)
  clear hK hg2 hsh hf hfo
  go_wp2_with fail
  refine hs2.out.mono ?_
  rintro e W5 ⟨v5, rfl, hm5, hF5⟩
  have e5 := hF2.trans hF5
  obtain ⟨xa, xl, xk, rfl⟩ := hm5.slice
  have Hm5 := Lib.hid (hm5.mono (hX.trans hF2).size)
  clear hm5 hs2
  replace HO := Lib.hid (HO.out.ext e5)
  replace hX := hX.trans e5
  obtain ⟨q0, q1, f0, f1, r0, r1, hF, hG⟩ := lat_end hX hbs2 HO.out (.int .i64 n) (.slice xa xl xk)
  have HMf := Lib.hid (mat_kept2 Hm5.out HO.out (by decide) (by decide) hG)
  have Hres := Lib.hid (show LatPost w n (HnfOf n M) (.returned (.tuple #[latv n (.slice xa xl xk), .int .i64 0])) _ from ⟨_, K, rfl, HMf.out, HK.out, hF.out⟩)
  clear hG HMf
  go_wp2_with fail
  refine bodyPost_ret (v := .tuple #[latv n (.slice xa xl xk), .int .i64 0]) (by simp [results, Tryz.results71, go_sem, r0, r1]) rfl Hres.out
end Go.Proofs.YtkjnjmihfonilaaGreatDoor
namespace Go.Proofs.YtkjnjmihfonilaaGreatDoor
open Go.RowKit Go.Sort
theorem mxf_getD_ext {a b : Mx} (hl : a.length = b.length) (h : ∀ j, j < a.length → a.getD j [] = b.getD j []) : a = b := by
  apply List.ext_getElem hl
  intro i h1 h2
  have := h i h1
  rwa [getD_get h1, getD_get h2] at this
theorem tmpEq1_any {w : World} {va vb : Value} {a b : List Int} (hA : RowR w va a) (hB : RowR w vb b) (hbig : a.length ≤ 1000000) :
    Calls Tryz.prog 122 #[va, vb] w fun e w' => e = .returned (.bool (decide (a = b))) ∧ Ext w w' := by
  have h := Lib.hid (SlEq_any hA hB hbig)
  clear hA hB
  go_enter Tryz.func122, Tryz.ntmps122
  go_wp2_with fail
  refine h.out.mono ?_
  rintro e w1 ⟨rfl, hE⟩
  go_wp2_with fail
  go_ret
  exact ⟨rfl, hE⟩
set_option maxRecDepth 100000 in
set_option maxHeartbeats 1000000 in
theorem EqF1_any {w : World} {va vb : Value} {A B : Mx} (hA : MatR w va A) (hB : MatR w vb B) (hbig : A.length ≤ 1000000) (hbr : ∀ r ∈ A, r.length ≤ 1000000) :
    Calls Tryz.prog 121 #[va, vb, .func (.func 122) #[] #[]] w fun e w' => e = .returned (.bool (decide (A = B))) ∧ Ext w w' := by
  obtain ⟨sa, ga, oa, ca, va', rfl, hca, hvA, hSa, hrA⟩ := hA
  obtain ⟨sb, gb, ob, cb, vb', rfl, hcb, hvB, hSb, hrB⟩ := hB
  by_cases hl : A.length = B.length
  · obtain ⟨n, hn⟩ : ∃ n, n = A.length := ⟨_, rfl⟩
    rw [← hl]
    rw [← hn] at hbig ⊢
    have HA := Lib.hid hSa
    have HB := Lib.hid hSb
    have HvA := Lib.hid hvA
    have HvB := Lib.hid hvB
    have HrA := Lib.hid hrA
    have HrB := Lib.hid hrB
    have Hn := Lib.hid hn
    have Hm := Lib.hid (hn.trans hl)
    have Hbr := Lib.hid hbr
    clear hSa hSb hl hn hca hcb hvA hvB hrA hrB hbr
    go_enter Tryz.func121, Tryz.ntmps121
    go_wp2_with fail
    go_loopw [17] (fun idx wr => ∃ i : Nat, i ≤ n ∧ idx = .int .i64 i ∧ Hid (∀ j, j < i → A.getD j [] = B.getD j []) ∧ Ext w wr) (fun idx _ => n - (intOf idx).toNat)
    case atStart => exact ⟨0, by omega, by go_num, Lib.hid (fun j h => by omega), Ext.refl _⟩
    case round =>
      obtain ⟨i, hi, rfl, Hz, hE⟩ := hrel
      generalize wr = X at *
      by_cases hlt : i < n
      · have hii : (i : Int) < (n : Int) := by omega
        have hiA : i < A.length := by rw [← Hn.out]; exact hlt
        have hiB : i < B.length := by rw [← Hm.out]; exact hlt
        obtain ⟨sx, bx, ox, cx, hrx, hcx, hSx⟩ := MatR.row HA.out HvA.out HrA.out hiA
        obtain ⟨sy, by', oy, cy, hry, hcy, hSy⟩ := MatR.row HB.out HvB.out HrB.out hiB
        obtain rfl := HA.out.addr (by rw [HvA.out]; omega)
        obtain rfl := HB.out.addr (by rw [HvB.out]; omega)
        have k1 := hE.cell hrx
        have k2 := hE.cell hry
        have hx1 : RowR X (.slice sx A[i].length cx) A[i] := ⟨sx, bx, ox, cx, rfl, hcx, hSx.ext hE⟩
        have hy1 : RowR X (.slice sy B[i].length cy) B[i] := ⟨sy, by', oy, cy, rfl, hcy, hSy.ext hE⟩
        obtain ⟨lx, hlx⟩ : ∃ l, l = A[i].length := ⟨_, rfl⟩
        obtain ⟨ly, hly⟩ : ∃ l, l = B[i].length := ⟨_, rfl⟩
        rw [← hlx] at k1 hx1
        rw [← hly] at k2 hy1
        clear hlx hly
        have hEQ := Lib.hid (tmpEq1_any hx1 hy1 (Hbr.out _ (List.getElem_mem hiA)))
        have HxA := Lib.hid (show A.getD i [] = A[i] from getD_get hiA [])
        have HxB := Lib.hid (show B.getD i [] = B[i] from getD_get hiB [])
        obtain ⟨q, hq⟩ : ∃ q, q = decide (A[i] = B[i]) := ⟨_, rfl⟩
        rw [← hq] at hEQ
        have Hq := Lib.hid hq
        clear hrx hry hcx hcy hSx hSy hq hx1 hy1
        cases q
        · have Hne := Lib.hid (show decide (A = B) = false from decide_eq_false (fun e => by
            have := Hq.out.symm
            rw [decide_eq_false_iff_not] at this
            exact this (by rw [← HxA.out, ← HxB.out, e])))
          clear Hq HxA HxB
          go_wp2_with fail
          refine hEQ.out.mono ?_
          rintro e W6 ⟨rfl, hE6⟩
          have hE2 := hE.trans hE6
          clear k1 k2 hEQ
          go_wp2_with fail
          go_ret
          exact ⟨by rw [Hne.out]; rfl, hE2⟩
        · have Hok := Lib.hid (show A.getD i [] = B.getD i [] by rw [HxA.out, HxB.out]; exact of_decide_eq_true Hq.out.symm)
          have Hz2 := Lib.hid (show ∀ j, j < i + 1 → A.getD j [] = B.getD j [] from fun j hj => by
            by_cases e : j = i
            · subst e; exact Hok.out
            · exact Hz.out j (by omega))
          clear Hq HxA HxB
          go_wp2_with fail
          refine hEQ.out.mono ?_
          rintro e W6 ⟨rfl, hE6⟩
          have hE2 := hE.trans hE6
          clear k1 k2 hEQ
          go_wp2_with fail
          go_roundw
          case rel => exact ⟨i + 1, by omega, by go_num, Hz2, hE2⟩
          case measure => simp [intOf] <;> omega
      · have Heq := Lib.hid (show decide (A = B) = true from decide_eq_true (mxf_getD_ext (by rw [← Hn.out, ← Hm.out]) (fun j hj => Hz.out j (by rw [← Hn.out] at hj; omega))))
        go_wp2_with fail
        go_ret
        exact ⟨by rw [Heq.out]; rfl, hE⟩
  · have hne : decide (A = B) = false := decide_eq_false (fun e => hl (by rw [e]))
    rw [hne]
    have h1 : ¬ ((A.length : Int) = (B.length : Int)) := by omega
    have h2 : ((A.length : Int) == (B.length : Int)) = false := beq_eq_false_iff_ne.2 h1
    have h3 : ((A.length : Int) != (B.length : Int)) = true := by simp [bne, h2]
    clear hSa hSb hca hcb hne hvA hvB hrA hrB hbr
    generalize A.length = n at *
    generalize B.length = m at *
    go_enter Tryz.func121, Tryz.ntmps121
    go_wp2_with fail
    go_ret
    exact ⟨rfl, Ext.refl _⟩
set_option maxRecDepth 100000 in
set_option maxHeartbeats 1000000 in
theorem EqFR_any {w : World} {va vb : Value} {A B : Mx} (hA : MatR w va A) (hB : MatR w vb B) (hbig : A.length ≤ 1000000) (hbr : ∀ r ∈ A, r.length ≤ 1000000) :
    Calls Tryz.prog 121 #[va, vb, .func (.func 41) #[] #[]] w fun e w' => e = .returned (.bool (decide (A = B))) ∧ Ext w w' := by
  obtain ⟨sa, ga, oa, ca, va', rfl, hca, hvA, hSa, hrA⟩ := hA
  obtain ⟨sb, gb, ob, cb, vb', rfl, hcb, hvB, hSb, hrB⟩ := hB
  by_cases hl : A.length = B.length
  · obtain ⟨n, hn⟩ : ∃ n, n = A.length := ⟨_, rfl⟩
    rw [← hl]
    rw [← hn] at hbig ⊢
    have HA := Lib.hid hSa
    have HB := Lib.hid hSb
    have HvA := Lib.hid hvA
    have HvB := Lib.hid hvB
    have HrA := Lib.hid hrA
    have HrB := Lib.hid hrB
    have Hn := Lib.hid hn
    have Hm := Lib.hid (hn.trans hl)
    have Hbr := Lib.hid hbr
    clear hSa hSb hl hn hca hcb hvA hvB hrA hrB hbr
    go_enter Tryz.func121, Tryz.ntmps121
    go_wp2_with fail
    go_loopw [17] (fun idx wr => ∃ i : Nat, i ≤ n ∧ idx = .int .i64 i ∧ Hid (∀ j, j < i → A.getD j [] = B.getD j []) ∧ Ext w wr) (fun idx _ => n - (intOf idx).toNat)
    case atStart => exact ⟨0, by omega, by go_num, Lib.hid (fun j h => by omega), Ext.refl _⟩
    case round =>
      obtain ⟨i, hi, rfl, Hz, hE⟩ := hrel
      generalize wr = X at *
      by_cases hlt : i < n
      · have hii : (i : Int) < (n : Int) := by omega
        have hiA : i < A.length := by rw [← Hn.out]; exact hlt
        have hiB : i < B.length := by rw [← Hm.out]; exact hlt
        obtain ⟨sx, bx, ox, cx, hrx, hcx, hSx⟩ := MatR.row HA.out HvA.out HrA.out hiA
        obtain ⟨sy, by', oy, cy, hry, hcy, hSy⟩ := MatR.row HB.out HvB.out HrB.out hiB
        obtain rfl := HA.out.addr (by rw [HvA.out]; omega)
        obtain rfl := HB.out.addr (by rw [HvB.out]; omega)
        have k1 := hE.cell hrx
        have k2 := hE.cell hry
        have hx1 : RowR X (.slice sx A[i].length cx) A[i] := ⟨sx, bx, ox, cx, rfl, hcx, hSx.ext hE⟩
        have hy1 : RowR X (.slice sy B[i].length cy) B[i] := ⟨sy, by', oy, cy, rfl, hcy, hSy.ext hE⟩
        obtain ⟨lx, hlx⟩ : ∃ l, l = A[i].length := ⟨_, rfl⟩
        obtain ⟨ly, hly⟩ : ∃ l, l = B[i].length := ⟨_, rfl⟩
        rw [← hlx] at k1 hx1
        rw [← hly] at k2 hy1
        clear hlx hly
        have hEQ := Lib.hid (rowEqual_any hx1 hy1 (Hbr.out _ (List.getElem_mem hiA)))
        have HxA := Lib.hid (show A.getD i [] = A[i] from getD_get hiA [])
        have HxB := Lib.hid (show B.getD i [] = B[i] from getD_get hiB [])
        obtain ⟨q, hq⟩ : ∃ q, q = decide (A[i] = B[i]) := ⟨_, rfl⟩
        rw [← hq] at hEQ
        have Hq := Lib.hid hq
        clear hrx hry hcx hcy hSx hSy hq hx1 hy1
        cases q
        · have Hne := Lib.hid (show decide (A = B) = false from decide_eq_false (fun e => by
            have := Hq.out.symm
            rw [decide_eq_false_iff_not] at this
            exact this (by rw [← HxA.out, ← HxB.out, e])))
          clear Hq HxA HxB
          go_wp2_with fail
          refine hEQ.out.mono ?_
          rintro e W6 ⟨rfl, hE6⟩
          have hE2 := hE.trans hE6
          clear k1 k2 hEQ
          go_wp2_with fail
          go_ret
          exact ⟨by rw [Hne.out]; rfl, hE2⟩
        · have Hok := Lib.hid (show A.getD i [] = B.getD i [] by rw [HxA.out, HxB.out]; exact of_decide_eq_true Hq.out.symm)
          have Hz2 := Lib.hid (show ∀ j, j < i + 1 → A.getD j [] = B.getD j [] from fun j hj => by
            by_cases e : j = i
            · subst e; exact Hok.out
            · exact Hz.out j (by omega))
          clear Hq HxA HxB
          go_wp2_with fail
          refine hEQ.out.mono ?_
          rintro e W6 ⟨rfl, hE6⟩
          have hE2 := hE.trans hE6
          clear k1 k2 hEQ
          go_wp2_with fail
          go_roundw
          case rel => exact ⟨i + 1, by omega, by go_num, Hz2, hE2⟩
          case measure => simp [intOf] <;> omega
      · have Heq := Lib.hid (show decide (A = B) = true from decide_eq_true (mxf_getD_ext (by rw [← Hn.out, ← Hm.out]) (fun j hj => Hz.out j (by rw [← Hn.out] at hj; omega))))
        go_wp2_with fail
        go_ret
        exact ⟨by rw [Heq.out]; rfl, hE⟩
  · have hne : decide (A = B) = false := decide_eq_false (fun e => hl (by rw [e]))
    rw [hne]
    have h1 : ¬ ((A.length : Int) = (B.length : Int)) := by omega
    have h2 : ((A.length : Int) == (B.length : Int)) = false := beq_eq_false_iff_ne.2 h1
    have h3 : ((A.length : Int) != (B.length : Int)) = true := by simp [bne, h2]
    clear hSa hSb hca hcb hne hvA hvB hrA hrB hbr
    generalize A.length = n at *
    generalize B.length = m at *
    go_enter Tryz.func121, Tryz.ntmps121
    go_wp2_with fail
    go_ret
    exact ⟨rfl, Ext.refl _⟩
theorem tmpSame_any {w : World} {va vb : Value} {A B : Mx} (hA : MatR w va A) (hB : MatR w vb B) (hbig : A.length ≤ 1000000) (hbr : ∀ r ∈ A, r.length ≤ 1000000) :
    Calls Tryz.prog 76 #[va, vb] w fun e w' => e = .returned (.bool (decide (A = B))) ∧ Ext w w' := by
  have h := Lib.hid (EqF1_any hA hB hbig hbr)
  clear hA hB
  go_enter Tryz.func76, Tryz.ntmps76
  go_wp2_with fail
  refine h.out.mono ?_
  rintro e w1 ⟨rfl, hE⟩
  go_wp2_with fail
  go_ret
  exact ⟨rfl, hE⟩
set_option maxRecDepth 100000 in
theorem latEqual_any {w : World} {n : Nat} {va vb : Value} {A B : Mx} (hA : MatR w va A) (hB : MatR w vb B) (hbig : A.length ≤ 1000000) (hbr : ∀ r ∈ A, r.length ≤ 1000000) :
    Calls Tryz.prog 75 #[latv n va, latv n vb] w fun e w' => e = .returned (.bool (decide (A = B))) ∧ Ext w w' := by
  have h := Lib.hid (fun W (hW : Ext w W) => EqFR_any (hA.ext hW) (hB.ext hW) hbig hbr)
  have hX : Ext w ((w.alloc (.cells #[.int .i64 n, va] 94)).alloc (.cells #[.int .i64 n, vb] 94)) := ((Ext.refl w).alloc _).alloc _
  obtain ⟨sa, ga, oa, ca, va', rfl, hca, hvA, hSa, hrA⟩ := hA
  obtain ⟨sb, gb, ob, cb, vb', rfl, hcb, hvB, hSb, hrB⟩ := hB
  clear hSa hSb hrA hrB hvA hvB hca hcb hbig hbr
  generalize A.length = L at *
  generalize B.length = L2 at *
  go_enter Tryz.func75, Tryz.ntmps75
  go_wp2_with fail
  refine (h.out _ hX).mono ?_
  rintro e w1 ⟨rfl, hE⟩
  go_wp2_with fail
  go_ret
  exact ⟨rfl, hX.trans hE⟩
end Go.Proofs.YtkjnjmihfonilaaGreatDoor
namespace Go.Proofs.YtkjnjmihfonilaaGreatDoor
open Go.RowKit Go.Sort
def SmP (n : Int) : Prop := n = 2 ∨ n = 3 ∨ n = 5 ∨ n = 7 ∨ n = 11 ∨ n = 13
set_option maxRecDepth 100000 in
set_option maxHeartbeats 1000000 in
theorem isPrime_ok {w : World} {n : Int} (h : SmP n) : Calls Tryz.prog 114 #[.int .i64 n] w fun e w' => e = .returned (.bool true) ∧ Ext w w' := by
  rcases h with rfl | rfl | rfl | rfl | rfl | rfl
  all_goals
    go_enter Tryz.func114, Tryz.ntmps114
    go_wp2_with fail
    go_loopw [3] (fun dv wr => ∃ d : Nat, 2 ≤ d ∧ d ≤ 4 ∧ dv = .int .i64 d ∧ Ext w wr) (fun dv _ => 4 - (intOf dv).toNat)
    case atStart => exact ⟨2, by omega, by omega, by go_num, Ext.refl _⟩
    case round =>
      obtain ⟨d, hd1, hd2, rfl, hE⟩ := hrel
      generalize wr = X at *
      rcases (show d = 2 ∨ d = 3 ∨ d = 4 by omega) with rfl | rfl | rfl
      all_goals
        go_wp2_with fail
        first
          | (go_ret
             exact ⟨rfl, hE⟩)
          | (go_roundw
             case rel => exact ⟨3, by omega, by omega, by go_num, hE⟩
             case measure => simp [intOf])
          | (go_roundw
             case rel => exact ⟨4, by omega, by omega, by go_num, hE⟩
             case measure => simp [intOf])
set_option maxRecDepth 100000 in
set_option maxHeartbeats 1000000 in
theorem pCheck_ok {w : World} {v : Value} {p : List Int} (hp : RowR w v p) (h0 : 0 < p.length) (h6 : p.length ≤ 6) (hP : ∀ x ∈ p, SmP x) (hinc : ∀ i (h : i + 1 < p.length), p[i]'(by omega) < p[i + 1]) :
    Calls Tryz.prog 70 #[v] w fun e w' => e = .returned (.int .i64 0) ∧ Ext w w' := by
  obtain ⟨sa, gb, go, cap, rfl, hc, hS⟩ := hp
  obtain ⟨n, hn⟩ : ∃ n, n = p.length := ⟨_, rfl⟩
  have HS := Lib.hid hS
  have HP := Lib.hid hP
  have HI := Lib.hid hinc
  obtain rfl := hS.addr (by simp; omega)
  rw [← hn] at h0 h6 hc ⊢
  have Hn := Lib.hid hn
  have hz : ¬ (n : Int) = 0 := by omega
  have hz2 : ((n : Int) == 0) = false := beq_eq_false_iff_ne.2 hz
  have h6' : ¬ (n : Int) > 6 := by omega
  clear hS hP hinc hn
  go_enter Tryz.func70, Tryz.ntmps70
  go_wp2_with fail
  go_loopw [15] (fun idx wr => ∃ i : Nat, i ≤ n ∧ idx = .int .i64 i ∧ Ext w wr) (fun idx _ => n - (intOf idx).toNat)
  case atStart => exact ⟨0, by omega, by go_num, Ext.refl _⟩
  case round =>
    obtain ⟨i, hi, rfl, hE⟩ := hrel
    generalize wr = X at *
    by_cases hlt : i < n
    · have hii : (i : Int) < (n : Int) := by omega
      have hil : i < p.length := by rw [← Hn.out]; exact hlt
      obtain ⟨x, hx⟩ : ∃ x, x = p[i] := ⟨_, rfl⟩
      have cx := hE.cell (HS.out.cell i (.int .i64 x) (by rw [hx]; exact is_get hil))
      have hpr := Lib.hid (fun W => isPrime_ok (w := W) (n := x) (by rw [hx]; exact HP.out _ (List.getElem_mem hil)))
      cases i with
      | zero =>
        simp only [Nat.add_zero] at cx
        clear hx
        go_wp2_with fail
        refine (hpr.out _).mono ?_
        rintro e W ⟨rfl, hW⟩
        have hEW := hE.trans hW
        go_wp2_with fail
        refine ⟨⟨1, by omega, by go_num, hEW⟩, by simp [intOf]; omega⟩
      | succ j =>
        obtain ⟨y, hy⟩ : ∃ y, y = p[j]'(by omega) := ⟨_, rfl⟩
        have cy := hE.cell (HS.out.cell j (.int .i64 y) (by rw [hy]; exact is_get (by omega)))
        have hxy : ¬ x ≤ y := by have := HI.out j hil; rw [← hx, ← hy] at this; omega
        have hw1 : IntKind.i64.wrap (((j + 1 : Nat) : Int) - 1) = (j : Int) := by rw [IntWalk.i64_in _ (by omega)]; omega
        have hw2 : IntKind.i64.wrap ((j : Int) + 1 - 1) = (j : Int) := by rw [IntWalk.i64_in _ (by omega)]; omega
        have hj0 : ((j + 1 : Nat) : Int) > 0 := by omega
        have hj1 : (0 : Int) < (j : Int) + 1 := by omega
        have hj2 : (j : Int) < (n : Int) := by omega
        clear hx hy hil
        go_wp2_with fail
        refine (hpr.out _).mono ?_
        rintro e W ⟨rfl, hW⟩
        replace cx := hW.cell cx
        replace cy := hW.cell cy
        have hEW := hE.trans hW
        go_wp2_with fail
        refine ⟨⟨j + 1 + 1, by omega, by go_num, hEW⟩, by simp [intOf]; omega⟩
    · have hie : i = n := by omega
      subst hie
      go_wp2_with fail
      go_ret
      exact ⟨rfl, hE⟩
end Go.Proofs.YtkjnjmihfonilaaGreatDoor
namespace Go.Proofs.YtkjnjmihfonilaaGreatDoor
open Go.RowKit Go.Sort
theorem rowN {W : World} {b : Nat} {l : List Int} {n : Nat} (hn : l.length = n) (h : ∀ i (h : i < l.length), W.cell? ⟨b, i, none⟩ = some (.int .i64 l[i])) : RowR W (.slice (some ⟨b, 0, none⟩) n n) l := by
  subst hn
  refine ⟨_, b, 0, l.length, rfl, Nat.le_refl _, ⟨fun _ => rfl, fun i v hv => ?_⟩⟩
  have hi : i < l.length := by have := (List.getElem?_eq_some_iff.1 hv).1; simpa using this
  rw [is_get hi] at hv
  rw [← Option.some.inj hv, Nat.zero_add]
  exact h i hi
def prLs : List (List Int) := [[2, 3, 5], [2, 3, 5, 7], [2, 3], [2, 3, 7], [2, 5, 7], [3, 5, 7], [2, 3, 5, 11], [2], [2, 3, 7, 13], [3, 5, 7, 13]]
def prL (b : Int) : List Int := prLs.getD (b % 10).toNat []
theorem prL_all : ∀ k : Fin 10, (∀ x ∈ prLs.getD k.val [], x = 2 ∨ x = 3 ∨ x = 5 ∨ x = 7 ∨ x = 11 ∨ x = 13) ∧ 0 < (prLs.getD k.val []).length ∧ (prLs.getD k.val []).length ≤ 4 ∧ ∀ i : Fin 4, i.val + 1 < (prLs.getD k.val []).length → (prLs.getD k.val []).getD i.val 0 < (prLs.getD k.val []).getD (i.val + 1) 0 := by
  decide +kernel
theorem prL_ok (b : Int) : (∀ x ∈ prL b, SmP x) ∧ 0 < (prL b).length ∧ (prL b).length ≤ 4 ∧ ∀ i (h : i + 1 < (prL b).length), (prL b)[i]'(by omega) < (prL b)[i + 1] := by
  have key : ∀ k : Fin 10, (∀ x ∈ prLs.getD k.val [], SmP x) ∧ 0 < (prLs.getD k.val []).length ∧ (prLs.getD k.val []).length ≤ 4 ∧ ∀ i (h : i + 1 < (prLs.getD k.val []).length), (prLs.getD k.val [])[i]'(by omega) < (prLs.getD k.val [])[i + 1] := fun k => by
    obtain ⟨h1, h2, h3, h4⟩ := prL_all k
    refine ⟨h1, h2, h3, fun i h => ?_⟩
    have := h4 ⟨i, Nat.lt_of_succ_lt (Nat.lt_of_lt_of_le h h3)⟩ h
    rwa [getD_get (Nat.lt_of_succ_lt h), getD_get h] at this
  exact key ⟨(b % 10).toNat, by omega⟩
def PrPost (w : World) (b : Int) (e : Ending) (w' : World) : Prop := ∃ g, e = .returned (slv g (prL b).length (prL b).length) ∧ RowR w' (slv g (prL b).length (prL b).length) (prL b) ∧ w.heap.size ≤ g ∧ Ext w w'
set_option maxRecDepth 100000 in
set_option maxHeartbeats 4000000 in
theorem primes12_any {w : World} {b : Int} (hb : 0 ≤ b ∧ b ≤ 255) : Calls Tryz.prog 37 #[.int .u8 b] w (PrPost w b) := by
  obtain ⟨hb1, hb2⟩ := hb
  obtain ⟨k, hk⟩ : ∃ k : Nat, b % 10 = (k : Int) := ⟨(b % 10).toNat, by omega⟩
  have hk10 : k < 10 := by omega
  have hp : prL b = prLs.getD k [] := by unfold prL; rw [hk]; rfl
  have Hp := Lib.hid hp
  clear hp
  go_enter Tryz.func37, Tryz.ntmps37
  rcases (show k = 0 ∨ k = 1 ∨ k = 2 ∨ k = 3 ∨ k = 4 ∨ k = 5 ∨ k = 6 ∨ k = 7 ∨ k = 8 ∨ k = 9 by omega) with rfl | rfl | rfl | rfl | rfl | rfl | rfl | rfl | rfl | rfl
  all_goals
    go_wp2_with fail
    go_ret
    refine ⟨_, by rw [Hp.out]; rfl, ?_, ?_, ?_⟩
    · rw [Hp.out]
      refine rowN rfl fun i hi => ?_
      have hi4 : i < 4 := Nat.lt_of_lt_of_le hi (by decide)
      rcases (show i = 0 ∨ i = 1 ∨ i = 2 ∨ i = 3 by omega) with rfl | rfl | rfl | rfl
      all_goals first
        | (exact absurd hi (by decide))
        | (simp only [prLs, List.getD_eq_getElem?_getD, List.getElem?_cons_zero, List.getElem?_cons_succ, Option.getD_some, List.getElem_cons_zero, List.getElem_cons_succ]; go_simp)
    · first | exact Nat.le_refl _ | exact Nat.le_add_right _ _ | omega | (simp; done) | (simp; omega)
    · repeat (first | exact Ext.refl _ | refine Ext.alloc ?_ _)
end Go.Proofs.YtkjnjmihfonilaaGreatDoor
namespace Go.Proofs.YtkjnjmihfonilaaGreatDoor
open Go.RowKit Go.Sort
def ivL (n : Nat) (zs : List Int) : List Int := (zs.take n).map (·.tmod 10)
theorem ivL_len {n : Nat} {zs : List Int} (h4 : zs.length = 4) (hn : n ≤ 4) : (ivL n zs).length = n := by simp [ivL, h4]; omega
theorem ivL_ent (n : Nat) (zs : List Int) : ∀ z ∈ ivL n zs, -9 ≤ z ∧ z ≤ 9 := fun z hz => by
  obtain ⟨y, _, rfl⟩ := List.mem_map.1 hz
  have h1 := Int.tmod_lt_of_pos y (b := 10) (by omega)
  have h2 := Int.lt_tmod_of_pos y (b := 10) (by omega)
  omega
structure Ar4 (cs : Array Value) (zs : List Int) : Prop where
  sz : cs.size = 4
  len : zs.length = 4
  at' : ∀ j (_ : j < 4), cs[j]? = some (.int .i8 (zs.getD j 0))
  bd : ∀ z ∈ zs, -128 ≤ z ∧ z ≤ 127
theorem cellA {w : World} {cs : Array Value} {T : TypeId} {j : Nat} {x : Value} (h : cs[j]? = some x) : (w.alloc (.cells cs T)).cell? ⟨w.heap.size, j, none⟩ = some x := by
  have hh : (w.heap.push (.cells cs T))[w.heap.size]? = some (.cells cs T) := Array.getElem?_push_size
  simp only [World.cell?, World.alloc, hh]
  exact h
set_option maxRecDepth 100000 in
set_option maxHeartbeats 4000000 in
theorem interval12_any {w : World} {v : Value} {P : List Int} {cs : Array Value} {zs : List Int} (hP : RowR w v P) (hl : P.length ≤ 4) (hA : Ar4 cs zs) :
    Calls Tryz.prog 24 #[v, .agg cs] w fun e w' => ∃ v', e = .returned v' ∧ RowV w.heap.size w' v' (ivL P.length zs) ∧ Ext w w' := by
  obtain ⟨sa, gb, go, cap, rfl, hcap, hS⟩ := hP
  have hc := Lib.hid (fun j (hj : j < 4) => cellA (w := w) (T := 52) (hA.at' j hj))
  have Hl := Lib.hid hA.len
  have hEw := (Ext.refl w).alloc (.cells cs 52)
  have hsz : w.heap.size ≤ (w.alloc (.cells cs 52)).heap.size := by simp
  have Hbd := Lib.hid hA.bd
  clear hS hA
  obtain ⟨n, hn⟩ : ∃ n, n = P.length := ⟨_, rfl⟩
  rw [← hn] at hl hcap ⊢
  clear hn
  have HrL := Lib.hid (ivL_len Hl.out hl)
  go_enter Tryz.func24, Tryz.ntmps24
  go_wp2_with fail
  generalize (w.alloc (.cells cs 52)) = V at *
  go_loopw [5, 6] (fun out idx wr => ∃ i : Nat, i ≤ n ∧ idx = .int .i64 i ∧ Hid (RowV V.heap.size wr out ((ivL n zs).take i)) ∧ Ext V wr) (fun _ idx _ => n - (intOf idx).toNat)
  case atStart => exact ⟨0, by omega, by go_num, Lib.hid (RowV.nil _ _), Ext.refl _⟩
  case round =>
    obtain ⟨i, hi, rfl, hO, hE⟩ := hrel
    generalize wr = X at *
    by_cases hlt : i < n
    · have hii : (i : Int) < (n : Int) := by omega
      have hi4 : (i : Int) < 4 := by omega
      have hi4n : i < 4 := by omega
      have hz' := hE.cell (hc.out i hi4n)
      obtain ⟨z, hz⟩ : ∃ z, z = zs.getD i 0 := ⟨_, rfl⟩
      rw [← hz] at hz'
      have hzb := Hbd.out z (by rw [hz, getD_get (by rw [Hl.out]; exact hi4n)]; exact List.getElem_mem _)
      have hq : -9 ≤ z.tmod 10 ∧ z.tmod 10 ≤ 9 := by
        have h1 := Int.tmod_lt_of_pos z (b := 10) (by omega)
        have h2 := Int.lt_tmod_of_pos z (b := 10) (by omega)
        omega
      have Hrl := Lib.hid (show ((ivL n zs).take i).length = i by rw [List.length_take, HrL.out]; omega)
      have Hsn := Lib.hid (show (ivL n zs).take (i + 1) = (ivL n zs).take i ++ [z.tmod 10] by
        rw [List.take_succ_eq_append_getElem (by rw [HrL.out]; exact hlt)]
        congr 2
        simp only [ivL, List.getElem_map, List.getElem_take]
        rw [hz, getD_get (by rw [Hl.out]; exact hi4n)])
      have hsX := hE.size
      clear hz
      go_wp2_with (at_builtin; refine app_int rfl _ _ 26 Tryz.underlying26 rfl rfl (hO.out.ext ((Ext.refl _).alloc _)) rfl (b := X.heap.size) (z := z.tmod 10) (by go_simp) (by rw [Hrl.out]; omega) (by simp; omega) ?_; intro gg cap2 w8 hO8 hB8 hG8; rw [Hrl.out] at hO8 ⊢; rw [← Hsn.out] at hO8)
      have hE8 : Ext V w8 := Below.trans (hE.alloc (.cells #[.int .i64 (z.tmod 10)] 3)) hB8
      have hO9 := Lib.hid hO8
      clear hG8 hB8 hO8
      go_wp2_with fail
      go_roundw
      case rel => exact ⟨i + 1, by omega, by go_num, hO9, hE8⟩
      case measure => simp [intOf] <;> omega
    · have hie : i = n := by omega
      have HF := Lib.hid (show RowV V.heap.size X u5 (ivL n zs) by have := hO.out; rw [hie, List.take_of_length_le (by rw [HrL.out]; exact Nat.le_refl _)] at this; exact this)
      have hi4 : ¬ (i : Int) < (n : Int) := by omega
      go_wp2_with fail
      go_ret
      exact ⟨_, rfl, HF.out.mono hsz, hEw.trans hE⟩
end Go.Proofs.YtkjnjmihfonilaaGreatDoor
namespace Go.Proofs.YtkjnjmihfonilaaGreatDoor
open Go.RowKit Go.Sort Hnf
structure TmOK (P : List Int) (C M : Mx) : Prop where
  pr : ∀ x ∈ P, SmP x
  inc : ∀ i (h : i + 1 < P.length), P[i]'(by omega) < P[i + 1]
  p0 : 0 < P.length
  p4 : P.length ≤ 4
  kM : KerL P.length (latM C) M
  kC : KerL P.length (latM M) C
  sC : SmK C
  sM : SmK M
theorem SmK.of_abs {K : Mx} (h : ∀ r ∈ K, ∀ z ∈ r, z.natAbs ≤ 1000000000) : SmK K := fun r hr z hz => by have := h r hr z hz; omega
theorem KerL.uniq {n : Nat} {L : List V} {K K' : Mx} (h : KerL n L K) (h' : KerL n L K') : K = K' := h.unique h' fun _ => Iff.rfl
theorem tm_of {P : List Int} {R F K S : Mx} (hp : (∀ x ∈ P, SmP x) ∧ 0 < P.length ∧ P.length ≤ 4 ∧ ∀ i (h : i + 1 < P.length), P[i]'(by omega) < P[i + 1]) (hR : Rect P.length R) (hm : ∀ r ∈ R, ∀ z ∈ r, -9 ≤ z ∧ z ≤ 9) (hF : HnfOf P.length R F) (hK : KerL P.length (latM F) K) (hS : KerL P.length (latM K) S) :
    TmOK P S K ∧ TmOK P K S := by
  obtain ⟨h1, h2, h3, h4⟩ := hp
  obtain ⟨k1, k2, k3, k4⟩ := two_kernels h3 hR (fun r hr z hz => by have := hm r hr z hz; omega) hF hK hS
  have hex : KerL P.length (latM S) K := by
    obtain ⟨psF, hFi⟩ := hF.1
    refine ⟨hK.1, fun y => ⟨fun h => ⟨fun v hv => ?_, ((hK.2 y).1 h).2⟩, fun h => (hK.2 y).2 ⟨fun v hv => ?_, h.2⟩⟩⟩
    · rw [dot_comm]
      exact span_dot (fun a ha => hS.dot ha (.mem hv)) h
    · exact span_dot h.1 ((hS.2 v).2 ⟨fun a ha => by rw [dot_comm]; exact hK.dot hv (.mem ha), rect_far hFi.rect v hv⟩)
  exact ⟨⟨h1, h4, h2, h3, hex, hS, .of_abs k2, .of_abs k1⟩, ⟨h1, h4, h2, h3, hS, hex, .of_abs k1, .of_abs k2⟩⟩
theorem own3 (w : World) (T : TypeId) (a b c : Value) : OwnV T w.heap.size (w.alloc (.cells #[a, b, c] T)) w.heap.size 3 [a, b, c] :=
  OwnV.of (Nat.le_refl _) Array.getElem?_push_size (by simp) (by unfold maxLen; omega) rfl rfl
theorem set3 {T : TypeId} {g B : Nat} {w0 W : World} {a b c : Value} (hE : Ext w0 W) (hg : w0.heap.size ≤ g) (h : OwnV T B W g 3 [a, b, c]) (x y z : Value) :
    OwnV T B (((W.setCell ⟨g, 0, none⟩ x).setCell ⟨g, 1, none⟩ y).setCell ⟨g, 2, none⟩ z) g 3 [x, y, z] ∧ Ext w0 (((W.setCell ⟨g, 0, none⟩ x).setCell ⟨g, 1, none⟩ y).setCell ⟨g, 2, none⟩ z) ∧ W.grownBy (((W.setCell ⟨g, 0, none⟩ x).setCell ⟨g, 1, none⟩ y).setCell ⟨g, 2, none⟩ z) (some g) := by
  obtain ⟨h1, g1⟩ := h.set 0 x
  obtain ⟨h2, g2⟩ := h1.set 1 y
  obtain ⟨h3, g3⟩ := h2.set 2 z
  have gg := grown_trans (grown_trans g1 g2) g3
  exact ⟨h3, ext_trans_grown hE gg hg, gg⟩
end Go.Proofs.YtkjnjmihfonilaaGreatDoor
namespace Go.Proofs.YtkjnjmihfonilaaGreatDoor
open Go.RowKit Go.Sort
open Hnf (V Span)
def tmpE (x v : List Int) : Int := sumZ (fun i => x.getD i 0 * v.getD i 0) x.length
def tmpL (M : Mx) (x : List Int) : List Int := M.map (tmpE x)
@[simp] theorem tmpL_length (M : Mx) (x : List Int) : (tmpL M x).length = M.length := by simp [tmpL]
end Go.Proofs.YtkjnjmihfonilaaGreatDoor
namespace Go.Proofs.YtkjnjmihfonilaaGreatDoor
open Go.RowKit Go.Sort
def dgB (b : Nat) : Nat → Nat → List Nat
  | 0, _ => []
  | n + 1, k => dgB b n (k / b) ++ [k % b]
@[simp] theorem dgB_length (b : Nat) : ∀ n k, (dgB b n k).length = n
  | 0, _ => rfl
  | n + 1, k => by simp [dgB, dgB_length b n]
theorem dgB_lt {b : Nat} (hb : 0 < b) : ∀ n k, ∀ d ∈ dgB b n k, d < b
  | 0, _, d, h => by simp [dgB] at h
  | n + 1, k, d, h => by
    rw [dgB, List.mem_append] at h
    rcases h with h | h
    · exact dgB_lt hb n _ d h
    · simp at h; subst h; exact Nat.mod_lt _ hb
theorem dgB_carry {b : Nat} (hb : 1 < b) : ∀ n k j, j ≤ n → (∀ i, j ≤ i → i < n → (dgB b n k).getD i 0 = b - 1) →
    (j = 0 → k % b ^ n + 1 = b ^ n) ∧ (0 < j → (dgB b n k).getD (j - 1) 0 ≠ b - 1 → dgB b n (k + 1) = (dgB b n k).take (j - 1) ++ [(dgB b n k).getD (j - 1) 0 + 1] ++ List.replicate (n - j) 0)
  | 0, k, j, hj, _ => ⟨fun _ => by simp [Nat.mod_one], fun h => by omega⟩
  | n + 1, k, j, hj, h => by
    have hl := dgB_length b n (k / b)
    have hlast : (dgB b (n + 1) k).getD n 0 = k % b := by
      rw [dgB, List.getD_eq_getElem?_getD, List.getElem?_append_right (by omega), hl]; simp
    have hpre : ∀ i, i < n → (dgB b (n + 1) k).getD i 0 = (dgB b n (k / b)).getD i 0 := fun i hi => by
      rw [dgB, List.getD_eq_getElem?_getD, List.getElem?_append_left (by omega), List.getD_eq_getElem?_getD]
    rcases Nat.lt_or_ge n j with hjn | hjn
    · obtain rfl : j = n + 1 := by omega
      refine ⟨fun h => by omega, fun _ hd => ?_⟩
      rw [Nat.add_sub_cancel] at hd ⊢
      rw [hlast] at hd ⊢
      have hm := Nat.mod_lt k (show 0 < b by omega)
      have e1 : (k + 1) % b = k % b + 1 := by
        rw [Nat.add_mod, Nat.mod_eq_of_lt hb, Nat.mod_eq_of_lt (by omega)]
      have e2 : (k + 1) / b = k / b := by
        have h1 := Nat.div_add_mod k b
        have h2 := Nat.div_add_mod (k + 1) b
        rw [e1] at h2
        exact Nat.eq_of_mul_eq_mul_left (show 0 < b by omega) (by omega)
      rw [dgB, e1, e2, dgB, Nat.sub_self, List.take_left' hl]
      simp
    · have hk : k % b = b - 1 := by rw [← hlast]; exact h n hjn (by omega)
      have e1 : (k + 1) % b = 0 := by
        rw [Nat.add_mod, hk, Nat.mod_eq_of_lt hb, show b - 1 + 1 = b by omega, Nat.mod_self]
      have e2 : (k + 1) / b = k / b + 1 := by
        have h1 := Nat.div_add_mod k b
        have h2 := Nat.div_add_mod (k + 1) b
        rw [e1] at h2
        rw [hk] at h1
        refine Nat.eq_of_mul_eq_mul_left (show 0 < b by omega) ?_
        rw [Nat.mul_add]; omega
      obtain ⟨i1, i2⟩ := dgB_carry hb n (k / b) j hjn (fun i h1 h2 => by rw [← hpre i h2]; exact h i h1 (by omega))
      refine ⟨fun h0 => ?_, fun h0 hd => ?_⟩
      · have h3 := i1 h0
        have h4 : b * b ^ n = b * (k / b % b ^ n) + b := by rw [← Nat.mul_succ]; exact congrArg (b * ·) h3.symm
        rw [Nat.pow_succ, Nat.mul_comm (b ^ n) b, Nat.mod_mul, hk]
        omega
      · rw [hpre (j - 1) (by omega)] at hd ⊢
        rw [dgB, e2, e1, i2 h0 hd, dgB, List.take_append_of_le_length (by rw [hl]; omega), show n + 1 - j = (n - j) + 1 by omega, List.replicate_succ']
        simp
def bxR (n m k : Nat) : List Int := (dgB (2 * m + 1) n k).map fun (d : Nat) => (d : Int) - m
@[simp] theorem bxR_length (n m k : Nat) : (bxR n m k).length = n := by simp [bxR]
theorem bxR_b (n m k : Nat) : ∀ z ∈ bxR n m k, -(m : Int) ≤ z ∧ z ≤ m := fun z hz => by
  obtain ⟨d, hd, rfl⟩ := List.mem_map.1 hz
  have := dgB_lt (show 0 < 2 * m + 1 by omega) n k d hd
  omega
theorem dgB_zero (b : Nat) : ∀ n, dgB b n 0 = List.replicate n 0
  | 0 => rfl
  | n + 1 => by rw [dgB, Nat.zero_div, Nat.zero_mod, dgB_zero b n, List.replicate_succ']
theorem bxR_zero (n m : Nat) : bxR n m 0 = List.replicate n (-(m : Int)) := by
  rw [bxR, dgB_zero, List.map_replicate]
  simp
def bxL (M : Mx) (r : List Int) (n m k : Nat) : Mx := ((List.range k).map (bxR n m)).filter fun y => decide (tmpL M y = r)
theorem bxL_yes {M : Mx} {r : List Int} {n m k : Nat} (h : tmpL M (bxR n m k) = r) : bxL M r n m (k + 1) = bxL M r n m k ++ [bxR n m k] := by
  unfold bxL
  rw [List.range_succ, List.map_append, List.filter_append]
  simp [h]
theorem bxL_no {M : Mx} {r : List Int} {n m k : Nat} (h : tmpL M (bxR n m k) ≠ r) : bxL M r n m (k + 1) = bxL M r n m k := by
  unfold bxL
  rw [List.range_succ, List.map_append, List.filter_append]
  simp [h]
theorem bxL_len (M : Mx) (r : List Int) (n m k : Nat) : (bxL M r n m k).length ≤ k := by
  unfold bxL
  refine Nat.le_trans (List.length_filter_le _ _) ?_
  simp
theorem bxL_mem {M : Mx} {r : List Int} {n m k : Nat} {y : List Int} (h : y ∈ bxL M r n m k) : y.length = n ∧ (∀ z ∈ y, -(m : Int) ≤ z ∧ z ≤ m) ∧ tmpL M y = r := by
  unfold bxL at h
  rw [List.mem_filter, List.mem_map] at h
  obtain ⟨⟨i, _, rfl⟩, h2⟩ := h
  exact ⟨by simp, bxR_b n m i, by simpa using h2⟩
theorem bxR_carry {n m k j : Nat} (hm : 0 < m) (hj : j ≤ n) (h : ∀ i, j ≤ i → i < n → (bxR n m k).getD i 0 = m) :
    (j = 0 → k < (2 * m + 1) ^ n → k + 1 = (2 * m + 1) ^ n) ∧ (0 < j → (bxR n m k).getD (j - 1) 0 ≠ m → bxR n m (k + 1) = (bxR n m k).take (j - 1) ++ [(bxR n m k).getD (j - 1) 0 + 1] ++ List.replicate (n - j) (-(m : Int))) := by
  have hg : ∀ i, i < n → (bxR n m k).getD i 0 = ((dgB (2 * m + 1) n k).getD i 0 : Int) - m := fun i hi => by
    rw [getD_get (by simpa using hi), getD_get (by simpa using hi)]
    simp [bxR]
  obtain ⟨h1, h2⟩ := dgB_carry (b := 2 * m + 1) (by omega) n k j hj (fun i h3 h4 => by
    have := h i h3 h4
    rw [hg i h4] at this
    omega)
  refine ⟨fun h0 hk => ?_, fun h0 hd => ?_⟩
  · have := h1 h0
    rw [Nat.mod_eq_of_lt hk] at this
    exact this
  · rw [hg (j - 1) (by omega)] at hd ⊢
    have h3 := h2 h0 (by omega)
    unfold bxR
    rw [h3, List.map_append, List.map_append, List.map_replicate, List.map_take]
    simp only [List.map_cons, List.map_nil]
    congr 3
    · push_cast; omega
    · simp
def bstI (h : List Int → Nat) (L : Mx) : Nat → Nat
  | 0 => 0
  | k + 1 => if k = 0 ∨ h (L.getD k []) < h (L.getD (bstI h L k) []) then k else bstI h L k
theorem bstI_lt {h : List Int → Nat} {L : Mx} : ∀ {k}, 0 < k → bstI h L k < k
  | 0, h => by omega
  | k + 1, _ => by
    rw [bstI]
    split
    · omega
    · have : 0 < k := by omega
      have := bstI_lt (h := h) (L := L) this
      omega
def hgt (P : List Int) (y : List Int) : Nat → Nat
  | 0 => 1
  | k + 1 => hgt P y k * (P.getD k 0).toNat ^ (y.getD k 0).natAbs
def hgtA (P : List Int) (y : List Int) : Nat := hgt P y y.length
end Go.Proofs.YtkjnjmihfonilaaGreatDoor
