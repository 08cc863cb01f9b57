/- Part 32 of the proof of the claim: contracts of the functions that it reaches, and plain laws; no condition. -/
import Derived.Test.YtcklioolpicmcaaGreatDoorV31
import Derived.Test.YtcklioolpicmcaaGreatDoorV20
import Derived.Test.YtcklioolpicmcaaGreatDoorV21
import Derived.Test.YtcklioolpicmcaaGreatDoorV28
import Derived.Test.YtcklioolpicmcaaGreatDoorV15
/- schismalaw08: known -/
namespace Go.Proofs.YtcklioolpicmcaaGreatDoor
open Go.RowKit Go.Sort
theorem l8_row2 {W : World} {b : Nat} {x y : Int} (c0 : W.cell? ⟨b, 0, none⟩ = some (.int .i64 x)) (c1 : W.cell? ⟨b, 1, none⟩ = some (.int .i64 y)) : RowR W (.slice (some ⟨b, 0, none⟩) 2 2) [x, y] :=
  ⟨_, b, 0, 2, rfl, Nat.le_refl _, fun _ => rfl, fun i v hv => by
    match i, hv with
    | 0, hv => simp [is] at hv; rw [← hv]; exact c0
    | 1, hv => simp [is] at hv; rw [← hv]; exact c1
    | i + 2, hv => simp [is] at hv⟩
theorem l8_row3 {W : World} {b : Nat} {x y z : Int} (c0 : W.cell? ⟨b, 0, none⟩ = some (.int .i64 x)) (c1 : W.cell? ⟨b, 1, none⟩ = some (.int .i64 y)) (c2 : W.cell? ⟨b, 2, none⟩ = some (.int .i64 z)) : RowR W (.slice (some ⟨b, 0, none⟩) 3 3) [x, y, z] :=
  ⟨_, b, 0, 3, rfl, Nat.le_refl _, fun _ => rfl, fun i v hv => by
    match i, hv with
    | 0, hv => simp [is] at hv; rw [← hv]; exact c0
    | 1, hv => simp [is] at hv; rw [← hv]; exact c1
    | 2, hv => simp [is] at hv; rw [← hv]; exact c2
    | i + 3, hv => simp [is] at hv⟩
theorem l8_mat2 {W : World} {b : Nat} {v1 v2 : Value} {r1 r2 : List Int} (c0 : W.cell? ⟨b, 0, none⟩ = some v1) (c1 : W.cell? ⟨b, 1, none⟩ = some v2) (R1 : RowR W v1 r1) (R2 : RowR W v2 r2) : MatR W (.slice (some ⟨b, 0, none⟩) 2 2) [r1, r2] :=
  ⟨_, b, 0, 2, [v1, v2], rfl, Nat.le_refl _, rfl, ⟨fun _ => rfl, fun i v hv => by
    match i, hv with
    | 0, hv => simp at hv; rw [← hv]; exact c0
    | 1, hv => simp at hv; rw [← hv]; exact c1
    | i + 2, hv => simp at hv⟩, fun i h h' => by
    match i, h with
    | 0, _ => exact R1
    | 1, _ => exact R2⟩
theorem l8_mat3 {W : World} {b : Nat} {v1 v2 v3 : Value} {r1 r2 r3 : List Int} (c0 : W.cell? ⟨b, 0, none⟩ = some v1) (c1 : W.cell? ⟨b, 1, none⟩ = some v2) (c2 : W.cell? ⟨b, 2, none⟩ = some v3) (R1 : RowR W v1 r1) (R2 : RowR W v2 r2) (R3 : RowR W v3 r3) : MatR W (.slice (some ⟨b, 0, none⟩) 3 3) [r1, r2, r3] :=
  ⟨_, b, 0, 3, [v1, v2, v3], rfl, Nat.le_refl _, rfl, ⟨fun _ => rfl, fun i v hv => by
    match i, hv with
    | 0, hv => simp at hv; rw [← hv]; exact c0
    | 1, hv => simp at hv; rw [← hv]; exact c1
    | 2, hv => simp at hv; rw [← hv]; exact c2
    | i + 3, hv => simp at hv⟩, fun i h h' => by
    match i, h with
    | 0, _ => exact R1
    | 1, _ => exact R2
    | 2, _ => exact R3⟩
theorem k8_fac1 {w : World} {v : Value} (hM : MatR w v [[2, 4], [6, 8]]) (hL : Laid w) : Calls Tryz.prog 29 #[v] w fun e w' => ∃ u, e = .returned (.tuple #[u, .int .i64 0]) ∧ RowR w' u [2, 4] ∧ Ext w w' := by
  obtain ⟨a, h1, h2, h3⟩ := k8_run1
  refine (Factors_any (M := k8A) (c := 2) (f := 40) (E := 64) hM (by decide) (by decide) (by decide) (by decide) h1 (by decide) (by decide) h3 (by decide) (by decide) hL).mono ?_
  rintro e w' ⟨hp, hE⟩
  rw [h2, if_pos (by decide)] at hp
  obtain ⟨u, rfl, hu⟩ := hp
  exact ⟨u, rfl, hu.row, hE⟩
theorem k8_fac2 {w : World} {v : Value} (hM : MatR w v [[-4, 4, -1], [7, 0, -3], [2, 0, 0]]) (hL : Laid w) : Calls Tryz.prog 29 #[v] w fun e w' => ∃ u, e = .returned (.tuple #[u, .int .i64 0]) ∧ RowR w' u [1, 1, 24] ∧ Ext w w' := by
  obtain ⟨a, h1, h2, h3⟩ := k8_run2
  refine (Factors_any (M := k8B) (c := 3) (f := 60) (E := 64) hM (by decide) (by decide) (by decide) (by decide) h1 (by decide) (by decide) h3 (by decide) (by decide) hL).mono ?_
  rintro e w' ⟨hp, hE⟩
  rw [h2, if_pos (by decide)] at hp
  obtain ⟨u, rfl, hu⟩ := hp
  exact ⟨u, rfl, hu.row, hE⟩
theorem k8_order {w : World} {vm vb : Value} (hM : MatR w vm [[2, 0], [0, 3]]) (hb : RowR w vb [1, 1]) (hL : Laid w) : Calls Tryz.prog 25 #[vm, vb] w fun e w' => e = .returned (.tuple #[.int .i64 6, .bool true, .int .i64 0]) ∧ Ext w w' := by
  refine (Order_any (M := k8C) (x := [1, 1]) (c := 2) hM hb (by decide) (by decide) (by decide) (by decide) (by decide) (fun H hH => by rw [hnf_c hH]; exact k8_bnd) hL).mono ?_
  rintro e w' ⟨H, hH, hE, s, k, hs, hp⟩
  rw [hnf_c hH] at hs
  have h2 := k8_ord.symm.trans hs
  simp only [Prod.mk.injEq] at h2
  obtain ⟨rfl, rfl⟩ := h2
  rw [if_neg (by decide), if_pos (by decide)] at hp
  exact ⟨hp, hE⟩
theorem k8_solve {w : World} {vm vb : Value} (hM : MatR w vm [[2, 0], [0, 3]]) (hb : RowR w vb [4, 9]) (hL : Laid w) : Calls Tryz.prog 20 #[vm, vb] w fun e w' => ∃ u, e = .returned (.tuple #[u, .bool true, .int .i64 0]) ∧ RowR w' u [2, 3] ∧ Ext w w' := by
  refine (Solve_any (M := k8C) (b := [4, 9]) (c := 2) (E := bC 2 30 4) hM hb (by decide) (by decide) (by decide) rfl (by decide) hL).mono ?_
  rintro e w' ⟨H, hH, hE, hp⟩
  have hH' := hnf_w hH
  subst hH'
  obtain ⟨h1, h2, h3⟩ := k8_sol
  rcases hp with ⟨h4, _⟩ | ⟨_, _, u, rfl, hu⟩ | ⟨_, h4, _⟩
  · exact absurd h1 h4
  · refine ⟨u, rfl, ?_, hE⟩
    have := hu.row
    rw [show solX 2 k8W k8C.length [4, 9] = [2, 3] from h3] at this
    exact this
  · rw [show solX 2 k8W k8C.length [4, 9] = solX 2 k8W 2 [4, 9] from rfl, h2] at h4; cases h4
theorem s08_same {w : World} {va vb : Value} {a : List Int} (hA : RowR w va a) (hB : RowR w vb a) (hl : a.length ≤ 10) : Calls Tryz.prog 21 #[va, vb] w fun e w' => e = .returned (.bool true) ∧ Ext w w' := by
  have := Same08_any hA hB (by omega)
  rw [decide_eq_true rfl] at this
  exact this
set_option maxRecDepth 100000 in
set_option maxHeartbeats 2000000 in
theorem known08_any {w : World} (hL : Laid w) : Calls Tryz.prog 15 #[] w fun e w' => e = .returned (.bool true) ∧ Ext w w' := by
  have HL := Lib.hid hL
  clear hL
  go_enter Tryz.func15, Tryz.ntmps15
  go_wp2_with fail
  refine (k8_fac1 (l8_mat2 (v1 := .slice (some ⟨w.heap.size, 0, none⟩) 2 2) (v2 := .slice (some ⟨w.heap.size + 1, 0, none⟩) 2 2) (by go_simp) (by go_simp) (l8_row2 (by go_simp) (by go_simp)) (l8_row2 (by go_simp) (by go_simp))) (HL.out.ext ((((Ext.refl w).alloc _).alloc _).alloc _))).mono ?_
  rintro e w1 ⟨u1, rfl, hu1, hE1⟩
  have X1 := Lib.hid (((((Ext.refl w).alloc _).alloc _).alloc _).trans hE1)
  have H1 := Lib.hid hu1
  clear hu1 hE1
  go_wp2_with fail
  refine (k8_fac2 (l8_mat3 (v1 := .slice (some ⟨w1.heap.size, 0, none⟩) 3 3) (v2 := .slice (some ⟨w1.heap.size + 1, 0, none⟩) 3 3) (v3 := .slice (some ⟨w1.heap.size + 1 + 1, 0, none⟩) 3 3) (by go_simp) (by go_simp) (by go_simp) (l8_row3 (by go_simp) (by go_simp) (by go_simp)) (l8_row3 (by go_simp) (by go_simp) (by go_simp)) (l8_row3 (by go_simp) (by go_simp) (by go_simp))) (HL.out.ext (X1.out.trans (((((Ext.refl w1).alloc _).alloc _).alloc _).alloc _)))).mono ?_
  rintro e w2 ⟨u2, rfl, hu2, hE2⟩
  have E2 := Lib.hid ((((((Ext.refl w1).alloc _).alloc _).alloc _).alloc _).trans hE2)
  have H1b := Lib.hid (H1.out.ext E2.out)
  have X2 := Lib.hid (X1.out.trans E2.out)
  have H2 := Lib.hid hu2
  clear hu2 hE2 E2 H1 X1
  go_wp2_with fail
  refine (k8_order (l8_mat2 (v1 := .slice (some ⟨w2.heap.size, 0, none⟩) 2 2) (v2 := .slice (some ⟨w2.heap.size + 1, 0, none⟩) 2 2) (by go_simp) (by go_simp) (l8_row2 (by go_simp) (by go_simp)) (l8_row2 (by go_simp) (by go_simp))) (l8_row2 (by go_simp) (by go_simp)) (HL.out.ext (X2.out.trans (((((Ext.refl w2).alloc _).alloc _).alloc _).alloc _)))).mono ?_
  rintro e w3 ⟨rfl, hE3⟩
  have E3 := Lib.hid ((((((Ext.refl w2).alloc _).alloc _).alloc _).alloc _).trans hE3)
  have H1c := Lib.hid (H1b.out.ext E3.out)
  have H2b := Lib.hid (H2.out.ext E3.out)
  have X3 := Lib.hid (X2.out.trans E3.out)
  clear hE3 E3 H1b H2 X2
  go_wp2_with fail
  refine (k8_solve (l8_mat2 (v1 := .slice (some ⟨w3.heap.size, 0, none⟩) 2 2) (v2 := .slice (some ⟨w3.heap.size + 1, 0, none⟩) 2 2) (by go_simp) (by go_simp) (l8_row2 (by go_simp) (by go_simp)) (l8_row2 (by go_simp) (by go_simp))) (l8_row2 (by go_simp) (by go_simp)) (HL.out.ext (X3.out.trans (((((Ext.refl w3).alloc _).alloc _).alloc _).alloc _)))).mono ?_
  rintro e w4 ⟨u4, rfl, hu4, hE4⟩
  have E4 := Lib.hid ((((((Ext.refl w3).alloc _).alloc _).alloc _).alloc _).trans hE4)
  have H1d := Lib.hid (H1c.out.ext E4.out)
  have H2c := Lib.hid (H2b.out.ext E4.out)
  have X4 := Lib.hid (X3.out.trans E4.out)
  have H4 := Lib.hid hu4
  clear hu4 hE4 E4 H1c H2b X3
  go_wp2_with fail
  refine (s08_same (a := [2, 4]) (H1d.out.ext ((Ext.refl w4).alloc _)) (l8_row2 (by go_simp) (by go_simp)) (by decide)).mono ?_
  rintro e w5 ⟨rfl, hE5⟩
  have E5 := Lib.hid (((Ext.refl w4).alloc _).trans hE5)
  have H2d := Lib.hid (H2c.out.ext E5.out)
  have H4b := Lib.hid (H4.out.ext E5.out)
  have X5 := Lib.hid (X4.out.trans E5.out)
  clear hE5 E5 H1d H2c H4 X4
  go_wp2_with fail
  refine (s08_same (a := [1, 1, 24]) (H2d.out.ext ((Ext.refl w5).alloc _)) (l8_row3 (by go_simp) (by go_simp) (by go_simp)) (by decide)).mono ?_
  rintro e w6 ⟨rfl, hE6⟩
  have E6 := Lib.hid (((Ext.refl w5).alloc _).trans hE6)
  have H4c := Lib.hid (H4b.out.ext E6.out)
  have X6 := Lib.hid (X5.out.trans E6.out)
  clear hE6 E6 H2d H4b X5
  go_wp2_with fail
  refine (s08_same (a := [2, 3]) (H4c.out.ext ((Ext.refl w6).alloc _)) (l8_row2 (by go_simp) (by go_simp)) (by decide)).mono ?_
  rintro e w7 ⟨rfl, hE7⟩
  have X7 := Lib.hid (X6.out.trans (((Ext.refl w6).alloc _).trans hE7))
  clear hE7 H4c X6
  go_wp2_with fail
  go_ret
  exact ⟨rfl, X7.out⟩
end Go.Proofs.YtcklioolpicmcaaGreatDoor
/- schismalaw08: what Solve says of a small combination -/
namespace Go.Proofs.YtcklioolpicmcaaGreatDoor
open Go.RowKit Go.Sort
/-- A small matrix: at most three rows and columns, elements up to 9. -/
structure SmM (M : Mx) : Prop where
  n3 : M.length ≤ 3
  c3 : ncols M ≤ 3
  rect : Rect (ncols M) M
  ent : ∀ r ∈ M, ∀ z ∈ r, -9 ≤ z ∧ z ≤ 9
theorem sh_small (es : List Int) (C R : Nat) : SmM (shM es (C % 4) (R % 4)) := by
  have hc : ncols (shM es (C % 4) (R % 4)) = 0 ∧ R % 4 = 0 ∨ ncols (shM es (C % 4) (R % 4)) = C % 4 ∧ 0 < R % 4 := by
    rcases Nat.eq_zero_or_pos (R % 4) with h | h
    · left; rw [h]; exact ⟨rfl, rfl⟩
    · right
      refine ⟨?_, h⟩
      unfold ncols
      rw [getD_get (by rw [shM_length]; exact h)]
      exact shM_rect es _ _ _ (List.getElem_mem _)
  refine ⟨by rw [shM_length]; omega, by omega, ?_, shM_b es _ _⟩
  rcases hc with ⟨h1, h2⟩ | ⟨h1, _⟩
  · rw [h2]; intro r hr; cases hr
  · rw [h1]; exact shM_rect es _ _
theorem SmM.cb {M : Mx} (h : SmM M) {l : List Int} (hl : l.length = M.length) (hb : ∀ z ∈ l, -1000000000 ≤ z ∧ z ≤ 1000000000) : CbOk M l (ncols M) := ⟨h.n3, hl, h.rect, h.c3, h.ent, hb⟩
theorem sc_lim {N c : Nat} (hN : N ≤ 3) (hc : c ≤ 3) : 2 * ((bC N 30 (c + N) + (bC N 30 (c + N) + 1) * N) + ((bC N 30 (c + N) + (bC N 30 (c + N) + 1) * N) + 1) * N) + 6 < LIM := by
  rcases (show N = 0 ∨ N = 1 ∨ N = 2 ∨ N = 3 by omega) with rfl | rfl | rfl | rfl <;> rcases (show c = 0 ∨ c = 1 ∨ c = 2 ∨ c = 3 by omega) with rfl | rfl | rfl | rfl <;> decide
theorem sm_check {M : Mx} (h : SmM M) : checkM M = 0 := by
  unfold checkM
  rw [if_neg (by have := h.n3; omega)]
  refine chk_all _ M fun j hj => ?_
  have h1 := h.rect _ (List.getElem_mem hj)
  have h2 := h.ent _ (List.getElem_mem hj)
  have h3 : (M.getD 0 []).length = ncols M := rfl
  rw [h3]
  have h4 := h.c3
  have h5 : M[j].any grt = false := by
    rw [List.any_eq_false]
    intro z hz
    have := h2 z hz
    unfold grt
    simp only [decide_eq_true_eq]
    omega
  unfold chkR
  simp [h1, h5]
  omega
theorem chkRow_small {b : List Int} (hl : b.length ≤ 3) (hb2 : ∀ z ∈ b, -1000000000 ≤ z ∧ z ≤ 1000000000) : chkRow b = 0 := by
  unfold chkRow
  rw [if_neg (by omega)]
  have h5 : b.any grt = false := by
    rw [List.any_eq_false]
    intro z hz
    have := hb2 z hz
    unfold grt
    simp only [decide_eq_true_eq]
    omega
  rw [h5]; rfl
theorem cmbL_length (M : Mx) (l : List Int) (c : Nat) : (cmbL M l c).length = c := by simp [cmbL]
theorem cmbL_b {M : Mx} {l : List Int} (h : SmM M) (_ : l.length = M.length) (hl : ∀ z ∈ l, -40 ≤ z ∧ z ≤ 40) : ∀ z ∈ cmbL M l (ncols M), -1080 ≤ z ∧ z ≤ 1080 := fun z hz => by
  obtain ⟨j, hj, rfl⟩ := List.mem_map.1 hz
  rw [cmb_T3 h.n3]
  have hv : ∀ i, -40 ≤ vr l i ∧ vr l i ≤ 40 := fun i => by
    unfold vr
    by_cases hi : i < l.length
    · rw [getD_get hi]; exact hl _ (List.getElem_mem hi)
    · have : l.getD i 0 = 0 := by simp [List.getD, List.getElem?_eq_none (Nat.le_of_not_lt hi)]
      rw [this]; omega
  have hm : ∀ i, -9 ≤ eM M i j ∧ eM M i j ≤ 9 := fun i => by
    by_cases hi : i < M.length
    · by_cases hj : j < M[i].length
      · unfold eM; rw [getD_get hi, getD_get hj]; exact h.ent _ (List.getElem_mem hi) _ (List.getElem_mem hj)
      · rw [eM_col h.rect (by have := h.rect _ (List.getElem_mem hi); omega)]; omega
    · rw [eM_row (by omega)]; omega
  unfold T3
  have h0 := pb3 (hv 0) (hm 0)
  have h1 := pb3 (hv 1) (hm 1)
  have h2 := pb3 (hv 2) (hm 2)
  omega
theorem sc_solve {w : World} {vm vb : Value} {M : Mx} {l : List Int} (hM : MatR w vm M) (hb : RowR w vb (cmbL M l (ncols M))) (h : SmM M) (hll : l.length = M.length) (hl : ∀ z ∈ l, -40 ≤ z ∧ z ≤ 40) (hL : Laid w) :
    Calls Tryz.prog 20 #[vm, vb] w fun e w' => ∃ u x, e = .returned (.tuple #[u, .bool true, .int .i64 0]) ∧ RowR w' u x ∧ x.length = M.length ∧ (∀ z ∈ x, -1000000000 ≤ z ∧ z ≤ 1000000000) ∧ cmbL M x (ncols M) = cmbL M l (ncols M) ∧ Ext w w' := by
  have hbb := cmbL_b h hll hl
  have hck := sm_check h
  have hcr : chkRow (cmbL M l (ncols M)) = 0 := chkRow_small (by rw [cmbL_length]; exact h.c3) (fun z hz => by have := hbb z hz; omega)
  have hs0 : sizeE M (cmbL M l (ncols M)) = 0 := by
    unfold sizeE
    rw [if_pos hck, if_pos hcr, if_neg]
    rintro ⟨_, h2⟩
    exact h2 (cmbL_length _ _ _)
  rcases Nat.eq_zero_or_pos M.length with h0 | h0
  · have hMe : M = [] := List.length_eq_zero_iff.1 h0
    subst hMe
    obtain ⟨sa, gb, go, cap, vs, rfl, _, _, _, _⟩ := hM
    obtain rfl : l = [] := List.length_eq_zero_iff.1 hll
    refine (Solve_nil (cap := cap) hb hs0 (by rw [cmbL_length]; have := h.c3; omega)).mono ?_
    rintro e w' ⟨rfl, hE⟩
    refine ⟨.slice none 0 0, [], rfl, ⟨none, 0, 0, 0, rfl, Nat.le_refl _, Sl.nil _ _ _ _⟩, rfl, (fun z hz => by cases hz), rfl, hE⟩
  · refine (Solve_any (c := ncols M) (E := bC M.length 30 (ncols M + M.length)) hM hb hs0 h0 rfl rfl (sc_lim h.n3 h.c3) hL).mono ?_
    rintro e w' ⟨H, hH, hE, hp⟩
    obtain ⟨k1, k2, k3⟩ := solX_three h.rect h.n3 h.ent hH hll hl
    rcases hp with ⟨h4, _⟩ | ⟨_, _, u, rfl, hu⟩ | ⟨_, h4, _⟩
    · exact absurd k1 h4
    · refine ⟨u, _, rfl, hu.row, solX_length (cmbL_length _ _ _), fun z hz => ?_, ?_, hE⟩
      · have := List.all_eq_true.1 k2 z hz
        unfold grt at this
        simp only [Bool.not_eq_true', decide_eq_false_iff_not] at this
        omega
      · unfold cmbL
        refine List.map_congr_left fun j hj => ?_
        exact k3 j (List.mem_range.1 hj)
    · rw [k2] at h4; cases h4
end Go.Proofs.YtcklioolpicmcaaGreatDoor
/- smith: the error paths of all functions -/
namespace Go.Proofs.YtcklioolpicmcaaGreatDoor
open Go.RowKit Go.Sort
set_option maxRecDepth 100000 in
theorem Solve_bad {w : World} {vm vb : Value} {M : Mx} {b : List Int} {q : Int} (hM : MatR w vm M) (hb : RowR w vb b) (hq : sizeE M b = q) (h0 : q ≠ 0) :
    Calls Tryz.prog 20 #[vm, vb] w fun e w' => e = .returned (.tuple #[.slice none 0 0, .bool false, .int .i64 q]) ∧ Ext w w' := by
  have hsz := Lib.hid (sized_any hM hb)
  rw [hq] at hsz
  have hqb : (q == 0) = false := beq_eq_false_iff_ne.2 h0
  have hqb2 : (q != 0) = true := by simp [bne, hqb]
  clear hM hb hq
  go_enter Tryz.func20, Tryz.ntmps20
  go_wp2_with fail
  refine hsz.out.mono ?_
  rintro e w1 ⟨rfl, hE1⟩
  go_wp2_with fail
  go_ret3
  exact ⟨rfl, hE1⟩
set_option maxRecDepth 100000 in
theorem Order_bad {w : World} {vm vb : Value} {M : Mx} {b : List Int} {q : Int} (hM : MatR w vm M) (hb : RowR w vb b) (hq : sizeE M b = q) (h0 : q ≠ 0) :
    Calls Tryz.prog 25 #[vm, vb] w fun e w' => e = .returned (.tuple #[.int .i64 0, .bool false, .int .i64 q]) ∧ Ext w w' := by
  have hsz := Lib.hid (sized_any hM hb)
  rw [hq] at hsz
  have hqb : (q == 0) = false := beq_eq_false_iff_ne.2 h0
  have hqb2 : (q != 0) = true := by simp [bne, hqb]
  clear hM hb hq
  go_enter Tryz.func25, Tryz.ntmps25
  go_wp2_with fail
  refine hsz.out.mono ?_
  rintro e w1 ⟨rfl, hE1⟩
  go_wp2_with fail
  go_ret3
  exact ⟨rfl, hE1⟩
set_option maxRecDepth 100000 in
theorem group_any {w : World} {v : Value} {M : Mx} {n : Int} (hM : MatR w v M) (hn : -9223372036854775808 ≤ n ∧ n ≤ 9223372036854775807) :
    Calls Tryz.prog 80 #[v, .int .i64 n] w fun e w' => e = .returned (.int .i64 (groupE M n)) ∧ Ext w w' := by
  have hch := Lib.hid (tableCheck_any hM)
  obtain ⟨sa, gb, go, cap, vs, rfl, hcap, hvl, hS, hr⟩ := hM
  by_cases h0 : checkM M = 0
  · rw [h0] at hch
    by_cases h1 : n < 0
    · have he : groupE M n = 3 := by unfold groupE; rw [if_pos h0, if_pos (.inl h1)]
      rw [he]
      clear hS hvl hr h0 he
      go_enter Tryz.func80, Tryz.ntmps80
      go_wp2_with fail
      refine hch.out.mono ?_
      rintro e w1 ⟨rfl, hE1⟩
      go_wp2_with fail
      go_ret
      exact ⟨rfl, hE1⟩
    by_cases h2 : 12 < n
    · have he : groupE M n = 3 := by unfold groupE; rw [if_pos h0, if_pos (.inr h2)]
      rw [he]
      clear hS hvl hr h0 he
      go_enter Tryz.func80, Tryz.ntmps80
      go_wp2_with fail
      refine hch.out.mono ?_
      rintro e w1 ⟨rfl, hE1⟩
      go_wp2_with fail
      go_ret
      exact ⟨rfl, hE1⟩
    by_cases hM0 : M.length = 0
    · have he : groupE M n = 0 := by unfold groupE; rw [if_pos h0, if_neg (by omega), if_neg (by omega)]
      rw [he]
      rw [hM0] at hch ⊢
      clear hS hvl hr h0 he hM0 hcap
      go_enter Tryz.func80, Tryz.ntmps80
      go_wp2_with fail
      refine hch.out.mono ?_
      rintro e w1 ⟨rfl, hE1⟩
      go_wp2_with fail
      go_ret
      exact ⟨rfl, hE1⟩
    · have hMp : (0 : Int) < (M.length : Int) := by omega
      obtain ⟨s0, c0, rfl, hrow⟩ := ncols_row hS hvl hr (by omega)
      by_cases hl : (ncols M : Int) = n
      · have he : groupE M n = 0 := by unfold groupE; rw [if_pos h0, if_neg (by omega), if_neg (by omega)]
        rw [he]
        obtain ⟨m, hm⟩ : ∃ m, m = ncols M := ⟨_, rfl⟩
        rw [← hm] at hl hrow
        subst hl
        clear hS hvl hr h0 he hM0 hcap hm
        go_enter Tryz.func80, Tryz.ntmps80
        go_wp2_with fail
        refine hch.out.mono ?_
        rintro e w1 ⟨rfl, hE1⟩
        have hrow1 := hE1.cell hrow
        go_wp2_with fail
        go_ret
        exact ⟨rfl, hE1⟩
      · have he : groupE M n = 5 := by unfold groupE; rw [if_pos h0, if_neg (by omega), if_pos ⟨by omega, hl⟩]
        rw [he]
        have hlb : ((ncols M : Int) == n) = false := beq_eq_false_iff_ne.2 hl
        have hlb2 : ((ncols M : Int) != n) = true := by simp [bne, hlb]
        clear hS hvl hr h0 he hM0 hcap
        go_enter Tryz.func80, Tryz.ntmps80
        go_wp2_with fail
        refine hch.out.mono ?_
        rintro e w1 ⟨rfl, hE1⟩
        have hrow1 := hE1.cell hrow
        go_wp2_with fail
        go_ret
        exact ⟨rfl, hE1⟩
  · obtain ⟨q, hq⟩ : ∃ q, q = checkM M := ⟨_, rfl⟩
    have he : groupE M n = q := by unfold groupE; rw [if_neg h0, hq]
    have hqb : (q == 0) = false := beq_eq_false_iff_ne.2 (by rw [hq]; exact h0)
    have hqb2 : (q != 0) = true := by simp [bne, hqb]
    rw [he]
    rw [← hq] at hch
    clear hS hvl hr h0 he hq hcap
    go_enter Tryz.func80, Tryz.ntmps80
    go_wp2_with fail
    refine hch.out.mono ?_
    rintro e w1 ⟨rfl, hE1⟩
    go_wp2_with fail
    go_ret
    exact ⟨rfl, hE1⟩
set_option maxRecDepth 100000 in
theorem Quotient_bad {w : World} {v : Value} {M : Mx} {n q : Int} (hM : MatR w v M) (hn : -9223372036854775808 ≤ n ∧ n ≤ 9223372036854775807) (hq : groupE M n = q) (h0 : q ≠ 0) :
    Calls Tryz.prog 27 #[v, .int .i64 n] w fun e w' => e = .returned (.tuple #[.slice none 0 0, .int .i64 0, .int .i64 q]) ∧ Ext w w' := by
  have hsz := Lib.hid (group_any hM hn)
  rw [hq] at hsz
  have hqb : (q == 0) = false := beq_eq_false_iff_ne.2 h0
  have hqb2 : (q != 0) = true := by simp [bne, hqb]
  clear hM hq
  go_enter Tryz.func27, Tryz.ntmps27
  go_wp2_with fail
  refine hsz.out.mono ?_
  rintro e w1 ⟨rfl, hE1⟩
  go_wp2_with fail
  go_ret3
  exact ⟨rfl, hE1⟩
set_option maxRecDepth 100000 in
theorem Exponent_bad {w : World} {v : Value} {M : Mx} {n q : Int} (hM : MatR w v M) (hn : -9223372036854775808 ≤ n ∧ n ≤ 9223372036854775807) (hq : groupE M n = q) (h0 : q ≠ 0) :
    Calls Tryz.prog 28 #[v, .int .i64 n] w fun e w' => e = .returned (.tuple #[.int .i64 0, .bool false, .int .i64 q]) ∧ Ext w w' := by
  have hsz := Lib.hid (group_any hM hn)
  rw [hq] at hsz
  have hqb : (q == 0) = false := beq_eq_false_iff_ne.2 h0
  have hqb2 : (q != 0) = true := by simp [bne, hqb]
  clear hM hq
  go_enter Tryz.func28, Tryz.ntmps28
  go_wp2_with fail
  refine hsz.out.mono ?_
  rintro e w1 ⟨rfl, hE1⟩
  go_wp2_with fail
  go_ret3
  exact ⟨rfl, hE1⟩
theorem Factors_bad {w : World} {v : Value} {M : Mx} {q : Int} (hM : MatR w v M) (hq : checkM M = q) (h0 : q ≠ 0) :
    Calls Tryz.prog 29 #[v] w fun e w' => e = .returned (.tuple #[.slice none 0 0, .int .i64 q]) ∧ Ext w w' := by
  have hck := Lib.hid (tableCheck_any hM)
  rw [hq] at hck
  have hqb : (q == 0) = false := beq_eq_false_iff_ne.2 h0
  have hqb2 : (q != 0) = true := by simp [bne, hqb]
  clear hM hq
  go_enter Tryz.func29, Tryz.ntmps29
  go_wp2_with fail
  refine hck.out.mono ?_
  rintro e w1 ⟨rfl, hE1⟩
  go_wp2_with fail
  go_ret2
  exact ⟨rfl, hE1⟩
theorem Form_bad {w : World} {v : Value} {M : Mx} {q : Int} (hM : MatR w v M) (hq : checkM M = q) (h0 : q ≠ 0) :
    Calls Tryz.prog 30 #[v] w fun e w' => e = .returned (.tuple #[.slice none 0 0, .int .i64 q]) ∧ Ext w w' := by
  have hck := Lib.hid (tableCheck_any hM)
  rw [hq] at hck
  have hqb : (q == 0) = false := beq_eq_false_iff_ne.2 h0
  have hqb2 : (q != 0) = true := by simp [bne, hqb]
  clear hM hq
  go_enter Tryz.func30, Tryz.ntmps30
  go_wp2_with fail
  refine hck.out.mono ?_
  rintro e w1 ⟨rfl, hE1⟩
  go_wp2_with fail
  go_ret2
  exact ⟨rfl, hE1⟩
theorem Transform_bad {w : World} {v : Value} {M : Mx} {q : Int} (hM : MatR w v M) (hq : checkM M = q) (h0 : q ≠ 0) :
    Calls Tryz.prog 31 #[v] w fun e w' => e = .returned (.tuple #[.slice none 0 0, .slice none 0 0, .int .i64 q]) ∧ Ext w w' := by
  have hck := Lib.hid (tableCheck_any hM)
  rw [hq] at hck
  have hqb : (q == 0) = false := beq_eq_false_iff_ne.2 h0
  have hqb2 : (q != 0) = true := by simp [bne, hqb]
  clear hM hq
  go_enter Tryz.func31, Tryz.ntmps31
  go_wp2_with fail
  refine hck.out.mono ?_
  rintro e w1 ⟨rfl, hE1⟩
  go_wp2_with fail
  go_ret3
  exact ⟨rfl, hE1⟩
theorem Kernel_bad {w : World} {v : Value} {M : Mx} {q : Int} (hM : MatR w v M) (hq : checkM M = q) (h0 : q ≠ 0) :
    Calls Tryz.prog 32 #[v] w fun e w' => e = .returned (.tuple #[.slice none 0 0, .int .i64 q]) ∧ Ext w w' := by
  have hck := Lib.hid (tableCheck_any hM)
  rw [hq] at hck
  have hqb : (q == 0) = false := beq_eq_false_iff_ne.2 h0
  have hqb2 : (q != 0) = true := by simp [bne, hqb]
  clear hM hq
  go_enter Tryz.func32, Tryz.ntmps32
  go_wp2_with fail
  refine hck.out.mono ?_
  rintro e w1 ⟨rfl, hE1⟩
  go_wp2_with fail
  go_ret2
  exact ⟨rfl, hE1⟩
end Go.Proofs.YtcklioolpicmcaaGreatDoor
/- schismalaw08: few, columns -/
namespace Go.Proofs.YtcklioolpicmcaaGreatDoor
open Go.RowKit Go.Sort
def few14 (M : Mx) : Bool := M.all (fun r => decide (r.length ≤ 14)) && decide (M.length ≤ 14)
set_option maxRecDepth 100000 in
set_option maxHeartbeats 1000000 in
theorem few08_any {w : World} {v : Value} {M : Mx} (hM : MatR w v M) (hm : M.length ≤ 9223372036854775807) :
    Calls Tryz.prog 22 #[v] w fun e w' => e = .returned (.bool (few14 M)) ∧ Ext w w' := by
  obtain ⟨sa, gb, go, cap, vs, rfl, hcap, hvl, hS, hr⟩ := hM
  have HS := Lib.hid hS
  have HV := Lib.hid hvl
  have HR := Lib.hid hr
  obtain ⟨n, hn⟩ : ∃ n, n = M.length := ⟨_, rfl⟩
  rw [← hn] at hcap ⊢
  have Hn := Lib.hid hn
  have hbig : (n : Int) ≤ 9223372036854775807 := by omega
  obtain ⟨q, hq⟩ : ∃ q, q = few14 M := ⟨_, rfl⟩
  rw [← hq]
  have Hq := Lib.hid hq
  clear hS hvl hr hn hq hm
  go_enter Tryz.func22, Tryz.ntmps22
  go_wp2_with fail
  go_loopw [3] (fun idx wr => ∃ i : Nat, i ≤ n ∧ idx = .int .i64 i ∧ Hid (∀ j (h : j < M.length), j < i → M[j].length ≤ 14) ∧ Ext w wr) (fun idx _ => n - (intOf idx).toNat)
  case atStart => exact ⟨0, by omega, by go_num, Lib.hid (fun j _ h => by omega), Ext.refl _⟩
  case round =>
    obtain ⟨i, hi, rfl, Hz, hE⟩ := hrel
    generalize wr = X at *
    by_cases hlt : i < n
    · have hii : (i : Int) < (n : Int) := by omega
      have hir : i < M.length := by rw [← Hn.out]; exact hlt
      obtain rfl := HS.out.addr (by rw [HV.out]; omega)
      obtain ⟨sr, br, or, cr, hrow, hrc, hSr⟩ := MatR.row HS.out HV.out HR.out hir
      have hrow' := hE.cell hrow
      obtain ⟨m, hm⟩ : ∃ m, m = M[i].length := ⟨_, rfl⟩
      rw [← hm] at hrow'
      have Hm := Lib.hid hm
      clear hrow hrc hSr hm
      by_cases h14 : 14 < m
      · have h14i : (14 : Int) < (m : Int) := by omega
        have hres := Lib.hid (show q = false by
          rw [Hq.out]
          unfold few14
          rw [Bool.and_eq_false_iff]; left
          rw [Bool.eq_false_iff]; intro ha
          have := of_decide_eq_true (List.all_eq_true.1 ha _ (List.getElem_mem hir))
          have := Hm.out; omega)
        go_wp2_with fail
        go_ret
        exact ⟨by rw [hres.out]; rfl, hE⟩
      · have h14i : ¬ (14 : Int) < (m : Int) := by omega
        have Hz2 := Lib.hid (show ∀ j (h : j < M.length), j < i + 1 → M[j].length ≤ 14 from fun j hj h => by
          by_cases e : j = i
          · subst e; have := Hm.out; omega
          · exact Hz.out j hj (by omega))
        go_wp2_with fail
        go_roundw
        case rel => exact ⟨i + 1, by omega, by go_num, Hz2, hE⟩
        case measure => simp [intOf] <;> omega
    · have hall := Lib.hid (show q = decide (n ≤ 14) by
        rw [Hq.out]
        unfold few14
        rw [← Hn.out]
        have : M.all (fun r => decide (r.length ≤ 14)) = true := List.all_eq_true.2 fun r hr => by
          obtain ⟨j, hj, rfl⟩ := List.getElem_of_mem hr
          exact decide_eq_true (Hz.out j hj (by have := Hn.out; omega))
        rw [this, Bool.true_and])
      by_cases h14 : n ≤ 14
      · have h14i : (n : Int) ≤ 14 := by omega
        have hres := Lib.hid (show q = true by rw [hall.out]; exact decide_eq_true h14)
        clear hall h14
        go_wp2_with fail
        go_ret
        exact ⟨by rw [hres.out]; rfl, hE⟩
      · have h14i : ¬ (n : Int) ≤ 14 := by omega
        have hres := Lib.hid (show q = false by rw [hall.out]; exact decide_eq_false h14)
        clear hall h14
        go_wp2_with fail
        go_ret
        exact ⟨by rw [hres.out]; rfl, hE⟩
/-- The error of a number of columns for a right matrix. -/
def colE (M : Mx) (n : Int) : Int := if n < 0 ∨ 12 < n then 3 else if 0 < M.length ∧ (ncols M : Int) ≠ n then 5 else 0
set_option maxRecDepth 100000 in
set_option maxHeartbeats 1000000 in
theorem columns08_any {w : World} {v : Value} {M : Mx} {n : Int} (hM : MatR w v M) :
    Calls Tryz.prog 26 #[v, .int .i64 n] w fun e w' => e = .returned (.int .i64 (colE M n)) ∧ Ext w w' := by
  obtain ⟨sa, gb, go, cap, vs, rfl, hcap, hvl, hS, hr⟩ := hM
  by_cases h1 : n < 0
  · have he : colE M n = 3 := by unfold colE; rw [if_pos (.inl h1)]
    rw [he]
    clear hS hvl hr he
    go_enter Tryz.func26, Tryz.ntmps26
    go_wp2_with fail
    go_ret
    exact ⟨rfl, Ext.refl _⟩
  by_cases h2 : 12 < n
  · have he : colE M n = 3 := by unfold colE; rw [if_pos (.inr h2)]
    rw [he]
    clear hS hvl hr he
    go_enter Tryz.func26, Tryz.ntmps26
    go_wp2_with fail
    go_ret
    exact ⟨rfl, Ext.refl _⟩
  by_cases hM0 : M.length = 0
  · have he : colE M n = 0 := by unfold colE; rw [if_neg (by omega), if_neg (by omega)]
    rw [he, hM0]
    clear hS hvl hr he hM0 hcap
    go_enter Tryz.func26, Tryz.ntmps26
    go_wp2_with fail
    go_ret
    exact ⟨rfl, Ext.refl _⟩
  · have hMp : (0 : Int) < (M.length : Int) := by omega
    obtain ⟨s0, c0, rfl, hrow⟩ := ncols_row hS hvl hr (by omega)
    by_cases hl : (ncols M : Int) = n
    · have he : colE M n = 0 := by unfold colE; rw [if_neg (by omega), if_neg (by omega)]
      rw [he]
      obtain ⟨m, hm⟩ : ∃ m, m = ncols M := ⟨_, rfl⟩
      rw [← hm] at hl hrow
      subst hl
      clear hS hvl hr he hM0 hcap hm
      go_enter Tryz.func26, Tryz.ntmps26
      go_wp2_with fail
      go_ret
      exact ⟨rfl, Ext.refl _⟩
    · have he : colE M n = 5 := by unfold colE; rw [if_neg (by omega), if_pos ⟨by omega, hl⟩]
      rw [he]
      have hlb : ((ncols M : Int) == n) = false := beq_eq_false_iff_ne.2 hl
      have hlb2 : ((ncols M : Int) != n) = true := by simp [bne, hlb]
      clear hS hvl hr he hM0 hcap
      go_enter Tryz.func26, Tryz.ntmps26
      go_wp2_with fail
      go_ret
      exact ⟨rfl, Ext.refl _⟩
end Go.Proofs.YtcklioolpicmcaaGreatDoor
/- smith: Verify, of wrong matrices -/
namespace Go.Proofs.YtcklioolpicmcaaGreatDoor
open Go.RowKit Go.Sort
theorem ix3_a (w : World) (a b c : Value) : (Instr.index 134 (.agg #[a, b, c]) (.int .i64 0)).run Tryz.prog w = .ok a w := by
  simp [Instr.index, run_underlying Tryz.underlying134, asIntOf, go_sem]
theorem ix3_b (w : World) (a b c : Value) : (Instr.index 134 (.agg #[a, b, c]) (.int .i64 1)).run Tryz.prog w = .ok b w := by
  simp [Instr.index, run_underlying Tryz.underlying134, asIntOf, go_sem]
theorem ix3_c (w : World) (a b c : Value) : (Instr.index 134 (.agg #[a, b, c]) (.int .i64 2)).run Tryz.prog w = .ok c w := by
  simp [Instr.index, run_underlying Tryz.underlying134, asIntOf, go_sem]
def verE (A B C : Mx) : Int := if checkM A = 0 then if checkM B = 0 then checkM C else checkM B else checkM A
set_option maxRecDepth 100000 in
set_option maxHeartbeats 2000000 in
theorem Verify_bad {w : World} {va vb vc : Value} {A B C : Mx} {q : Int} (hA : MatR w va A) (hB : MatR w vb B) (hC : MatR w vc C) (hq : verE A B C = q) (h0 : q ≠ 0) :
    Calls Tryz.prog 33 #[va, vb, vc] w fun e w' => e = .returned (.int .i64 q) ∧ Ext w w' := by
  have hca := Lib.hid (fun W (hW : Ext w W) => tableCheck_any (hA.ext hW))
  have hcb := Lib.hid (fun W (hW : Ext w W) => tableCheck_any (hB.ext hW))
  have hcc := Lib.hid (fun W (hW : Ext w W) => tableCheck_any (hC.ext hW))
  obtain ⟨sa, ga, oa, pa, ua, rfl, _, _, _, _⟩ := hA
  obtain ⟨sb, gb, ob, pb, ub, rfl, _, _, _, _⟩ := hB
  obtain ⟨sc, gc, oc, pc, uc, rfl, _, _, _, _⟩ := hC
  obtain ⟨na, hna⟩ : ∃ na, na = A.length := ⟨_, rfl⟩
  obtain ⟨nb, hnb⟩ : ∃ nb, nb = B.length := ⟨_, rfl⟩
  obtain ⟨nc, hnc⟩ : ∃ nc, nc = C.length := ⟨_, rfl⟩
  rw [← hna] at hca ⊢
  rw [← hnb] at hcb ⊢
  rw [← hnc] at hcc ⊢
  obtain ⟨za, hza⟩ : ∃ za, za = checkM A := ⟨_, rfl⟩
  obtain ⟨zb, hzb⟩ : ∃ zb, zb = checkM B := ⟨_, rfl⟩
  obtain ⟨zc, hzc⟩ : ∃ zc, zc = checkM C := ⟨_, rfl⟩
  rw [← hza] at hca
  rw [← hzb] at hcb
  rw [← hzc] at hcc
  unfold verE at hq
  rw [← hza, ← hzb, ← hzc] at hq
  have hi0 := fun W => ix3_a W (.slice sa na pa) (.slice sb nb pb) (.slice sc nc pc)
  have hi1 := fun W => ix3_b W (.slice sa na pa) (.slice sb nb pb) (.slice sc nc pc)
  have hi2 := fun W => ix3_c W (.slice sa na pa) (.slice sb nb pb) (.slice sc nc pc)
  have Hq := Lib.hid hq
  have H0 := Lib.hid h0
  clear hna hnb hnc hza hzb hzc hq h0
  go_enter Tryz.func33, Tryz.ntmps33
  go_wp2_with fail
  go_loopw [8, 9, 24] (fun _ _ kv wr => ∃ k : Nat, k ≤ 2 ∧ kv = .int .i64 k ∧ Hid ((0 < k → za = 0) ∧ (1 < k → zb = 0)) ∧ Ext w wr) (fun _ _ kv _ => 2 - (intOf kv).toNat)
  case atStart => exact ⟨0, by omega, by go_num, Lib.hid ⟨fun h => by omega, fun h => by omega⟩, Ext.refl _⟩
  case round =>
    obtain ⟨k, hk, rfl, hz, hE⟩ := hrel
    generalize wr = X at *
    rcases (show k = 0 ∨ k = 1 ∨ k = 2 by omega) with rfl | rfl | rfl
    · rw [show ((0 : Nat) : Int) = 0 from rfl]
      clear hi1 hi2
      go_wp2_with fail
      refine (hca.out _ hE).mono ?_
      rintro e w1 ⟨rfl, hE1⟩
      have hX := hE.trans hE1
      by_cases hb : za = 0
      · have Hz := Lib.hid hb
        subst hb
        clear hi0 hE hE1 hca
        go_wp2_with fail
        go_roundw
        case rel => exact ⟨1, by omega, by go_num, Lib.hid ⟨fun _ => (by first | rfl | trivial), fun h => by omega⟩, hX⟩
        case measure => simp [intOf]
      · have hqb : (za == 0) = false := beq_eq_false_iff_ne.2 hb
        have hqb2 : (za != 0) = true := by simp [bne, hqb]
        have hres := Lib.hid (show za = q by rw [← Hq.out, if_neg hb])
        go_wp2_with fail
        go_ret
        exact ⟨by rw [hres.out]; rfl, hX⟩
    · rw [show ((1 : Nat) : Int) = 1 from rfl]
      clear hi0 hi2
      go_wp2_with fail
      refine (hcb.out _ hE).mono ?_
      rintro e w1 ⟨rfl, hE1⟩
      have hX := hE.trans hE1
      by_cases hb : zb = 0
      · have Hz := Lib.hid hb
        subst hb
        clear hi1 hE hE1 hcb
        go_wp2_with fail
        go_roundw
        case rel => exact ⟨2, by omega, by go_num, Lib.hid ⟨fun _ => hz.out.1 (by omega), fun _ => (by first | rfl | trivial)⟩, hX⟩
        case measure => simp [intOf]
      · have hqb : (zb == 0) = false := beq_eq_false_iff_ne.2 hb
        have hqb2 : (zb != 0) = true := by simp [bne, hqb]
        have hres := Lib.hid (show zb = q by rw [← Hq.out, if_pos (hz.out.1 (by omega)), if_neg hb])
        go_wp2_with fail
        go_ret
        exact ⟨by rw [hres.out]; rfl, hX⟩
    · rw [show ((2 : Nat) : Int) = 2 from rfl]
      clear hi0 hi1
      have hres := Lib.hid (show zc = q by rw [← Hq.out, if_pos (hz.out.1 (by omega)), if_pos (hz.out.2 (by omega))])
      have hb : zc ≠ 0 := by rw [hres.out]; exact H0.out
      have hqb : (zc == 0) = false := beq_eq_false_iff_ne.2 hb
      have hqb2 : (zc != 0) = true := by simp [bne, hqb]
      go_wp2_with fail
      refine (hcc.out _ hE).mono ?_
      rintro e w1 ⟨rfl, hE1⟩
      have hX := hE.trans hE1
      go_wp2_with fail
      go_ret
      exact ⟨by rw [hres.out]; rfl, hX⟩
end Go.Proofs.YtcklioolpicmcaaGreatDoor
/- table.Columns -/
namespace Go.Proofs.YtcklioolpicmcaaGreatDoor
open Go.RowKit Go.Sort
theorem columns_any {w : World} {v : Value} {M : Mx} (hM : MatR w v M) :
    Calls Tryz.prog 140 #[v] w fun e w' => e = .returned (.int .i64 (ncols M)) ∧ Ext w w' := by
  obtain ⟨sa, gb, go, cap, vs, rfl, hcap, hvl, hS, hr⟩ := hM
  by_cases h0 : M.length = 0
  · have hn : ncols M = 0 := by
      have : M = [] := List.eq_nil_of_length_eq_zero h0
      rw [this]; rfl
    rw [h0, hn]
    clear hS hr hvl h0 hcap hn
    go_enter Tryz.func140, Tryz.ntmps140
    go_wp2_with fail
    go_ret
    exact ⟨rfl, Ext.refl _⟩
  · have hi0 : 0 < M.length := by omega
    obtain rfl := hS.addr (by rw [hvl]; omega)
    obtain ⟨s0, b0, o0, c0, hrow0, hrc0, hS0⟩ := MatR.row hS hvl hr hi0
    have hn : M[0].length = ncols M := by unfold ncols; rw [getD_get hi0]
    rw [hn, Nat.add_zero] at hrow0
    have hb : ((M.length : Int) == 0) = false := beq_eq_false_iff_ne.2 (by omega)
    have hb2 : ¬ (M.length : Int) = 0 := by omega
    clear hS hr hvl hn hS0 hrc0
    go_enter Tryz.func140, Tryz.ntmps140
    go_wp2_with fail
    go_ret
    exact ⟨rfl, Ext.refl _⟩
end Go.Proofs.YtcklioolpicmcaaGreatDoor
