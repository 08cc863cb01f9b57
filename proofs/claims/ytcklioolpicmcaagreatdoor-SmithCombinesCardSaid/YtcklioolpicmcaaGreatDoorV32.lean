/- Part 32 of the proof of the claim: contracts of the functions that it reaches, and plain laws; no condition. -/
import Derived.Test.YtcklioolpicmcaaGreatDoorV31
import Derived.Test.YtcklioolpicmcaaGreatDoorV20
import Derived.Test.YtcklioolpicmcaaGreatDoorV21
import Derived.Test.YtcklioolpicmcaaGreatDoorV15
import Derived.Test.YtcklioolpicmcaaGreatDoorV14
import Derived.Test.YtcklioolpicmcaaGreatDoorV08
import Derived.Test.YtcklioolpicmcaaGreatDoorRows
import Derived.ProofKit
import Derived.LaidMore
import Derived.OpenShut
import Derived.Stop.Joined
import Derived.Stop.LaidErr
import Derived.Lib.LaidTab
import Derived.Deep.Matrix
import Derived.Test.YtcklioolpicmcaaGreatDoorCards
import Derived.Test.YtcklioolpicmcaaGreatDoorTie
import Derived.SevenTiedAt
/- schismalaw08: known -/
namespace Go.Proofs.YtcklioolpicmcaaGreatDoor
open Go.RowKit Go.Sort
theorem l8_row2 {W : World} {b : Nat} {x y : Int} (c0 : W.cell? ⟨b, 0, none⟩ = some (.int .i64 x)) (c1 : W.cell? ⟨b, 1, none⟩ = some (.int .i64 y)) : RowR W (.slice (some ⟨b, 0, none⟩) 2 2) [x, y] :=
  ⟨_, b, 0, 2, rfl, Nat.le_refl _, fun _ => rfl, fun i v hv => by
    match i, hv with
    | 0, hv => simp [is] at hv; rw [← hv]; exact c0
    | 1, hv => simp [is] at hv; rw [← hv]; exact c1
    | i + 2, hv => simp [is] at hv⟩
theorem l8_row3 {W : World} {b : Nat} {x y z : Int} (c0 : W.cell? ⟨b, 0, none⟩ = some (.int .i64 x)) (c1 : W.cell? ⟨b, 1, none⟩ = some (.int .i64 y)) (c2 : W.cell? ⟨b, 2, none⟩ = some (.int .i64 z)) : RowR W (.slice (some ⟨b, 0, none⟩) 3 3) [x, y, z] :=
  ⟨_, b, 0, 3, rfl, Nat.le_refl _, fun _ => rfl, fun i v hv => by
    match i, hv with
    | 0, hv => simp [is] at hv; rw [← hv]; exact c0
    | 1, hv => simp [is] at hv; rw [← hv]; exact c1
    | 2, hv => simp [is] at hv; rw [← hv]; exact c2
    | i + 3, hv => simp [is] at hv⟩
theorem l8_mat2 {W : World} {b : Nat} {v1 v2 : Value} {r1 r2 : List Int} (c0 : W.cell? ⟨b, 0, none⟩ = some v1) (c1 : W.cell? ⟨b, 1, none⟩ = some v2) (R1 : RowR W v1 r1) (R2 : RowR W v2 r2) : MatR W (.slice (some ⟨b, 0, none⟩) 2 2) [r1, r2] :=
  ⟨_, b, 0, 2, [v1, v2], rfl, Nat.le_refl _, rfl, ⟨fun _ => rfl, fun i v hv => by
    match i, hv with
    | 0, hv => simp at hv; rw [← hv]; exact c0
    | 1, hv => simp at hv; rw [← hv]; exact c1
    | i + 2, hv => simp at hv⟩, fun i h h' => by
    match i, h with
    | 0, _ => exact R1
    | 1, _ => exact R2⟩
theorem l8_mat3 {W : World} {b : Nat} {v1 v2 v3 : Value} {r1 r2 r3 : List Int} (c0 : W.cell? ⟨b, 0, none⟩ = some v1) (c1 : W.cell? ⟨b, 1, none⟩ = some v2) (c2 : W.cell? ⟨b, 2, none⟩ = some v3) (R1 : RowR W v1 r1) (R2 : RowR W v2 r2) (R3 : RowR W v3 r3) : MatR W (.slice (some ⟨b, 0, none⟩) 3 3) [r1, r2, r3] :=
  ⟨_, b, 0, 3, [v1, v2, v3], rfl, Nat.le_refl _, rfl, ⟨fun _ => rfl, fun i v hv => by
    match i, hv with
    | 0, hv => simp at hv; rw [← hv]; exact c0
    | 1, hv => simp at hv; rw [← hv]; exact c1
    | 2, hv => simp at hv; rw [← hv]; exact c2
    | i + 3, hv => simp at hv⟩, fun i h h' => by
    match i, h with
    | 0, _ => exact R1
    | 1, _ => exact R2
    | 2, _ => exact R3⟩
theorem k8_fac1 {w : World} {v : Value} (hM : MatR w v [[2, 4], [6, 8]]) (hL : Laid w) : Calls Tryz.prog 29 #[v] w fun e w' => ∃ u, e = .returned (.tuple #[u, .int .i64 0]) ∧ RowR w' u [2, 4] ∧ Ext w w' := by
  obtain ⟨a, h1, h2, h3⟩ := k8_run1
  refine (Factors_any (M := k8A) (c := 2) (f := 40) (E := 64) hM (by decide) (by decide) (by decide) (by decide) h1 (by decide) (by decide) h3 (by decide) (by decide) hL).mono ?_
  rintro e w' ⟨hp, hE⟩
  rw [h2, if_pos (by decide)] at hp
  obtain ⟨u, rfl, hu⟩ := hp
  exact ⟨u, rfl, hu.row, hE⟩
theorem k8_fac2 {w : World} {v : Value} (hM : MatR w v [[-4, 4, -1], [7, 0, -3], [2, 0, 0]]) (hL : Laid w) : Calls Tryz.prog 29 #[v] w fun e w' => ∃ u, e = .returned (.tuple #[u, .int .i64 0]) ∧ RowR w' u [1, 1, 24] ∧ Ext w w' := by
  obtain ⟨a, h1, h2, h3⟩ := k8_run2
  refine (Factors_any (M := k8B) (c := 3) (f := 60) (E := 64) hM (by decide) (by decide) (by decide) (by decide) h1 (by decide) (by decide) h3 (by decide) (by decide) hL).mono ?_
  rintro e w' ⟨hp, hE⟩
  rw [h2, if_pos (by decide)] at hp
  obtain ⟨u, rfl, hu⟩ := hp
  exact ⟨u, rfl, hu.row, hE⟩
theorem k8_order {w : World} {vm vb : Value} (hM : MatR w vm [[2, 0], [0, 3]]) (hb : RowR w vb [1, 1]) (hL : Laid w) : Calls Tryz.prog 25 #[vm, vb] w fun e w' => e = .returned (.tuple #[.int .i64 6, .bool true, .int .i64 0]) ∧ Ext w w' := by
  refine (Order_any (M := k8C) (x := [1, 1]) (c := 2) hM hb (by decide) (by decide) (by decide) (by decide) (by decide) (fun H hH => by rw [hnf_c hH]; exact k8_bnd) hL).mono ?_
  rintro e w' ⟨H, hH, hE, s, k, hs, hp⟩
  rw [hnf_c hH] at hs
  have h2 := k8_ord.symm.trans hs
  simp only [Prod.mk.injEq] at h2
  obtain ⟨rfl, rfl⟩ := h2
  rw [if_neg (by decide), if_pos (by decide)] at hp
  exact ⟨hp, hE⟩
theorem k8_solve {w : World} {vm vb : Value} (hM : MatR w vm [[2, 0], [0, 3]]) (hb : RowR w vb [4, 9]) (hL : Laid w) : Calls Tryz.prog 20 #[vm, vb] w fun e w' => ∃ u, e = .returned (.tuple #[u, .bool true, .int .i64 0]) ∧ RowR w' u [2, 3] ∧ Ext w w' := by
  refine (Solve_any (M := k8C) (b := [4, 9]) (c := 2) (E := bC 2 30 4) hM hb (by decide) (by decide) (by decide) rfl (by decide) hL).mono ?_
  rintro e w' ⟨H, hH, hE, hp⟩
  have hH' := hnf_w hH
  subst hH'
  obtain ⟨h1, h2, h3⟩ := k8_sol
  rcases hp with ⟨h4, _⟩ | ⟨_, _, u, rfl, hu⟩ | ⟨_, h4, _⟩
  · exact absurd h1 h4
  · refine ⟨u, rfl, ?_, hE⟩
    have := hu.row
    rw [show solX 2 k8W k8C.length [4, 9] = [2, 3] from h3] at this
    exact this
  · rw [show solX 2 k8W k8C.length [4, 9] = solX 2 k8W 2 [4, 9] from rfl, h2] at h4; cases h4
theorem s08_same {w : World} {va vb : Value} {a : List Int} (hA : RowR w va a) (hB : RowR w vb a) (hl : a.length ≤ 10) : Calls Tryz.prog 21 #[va, vb] w fun e w' => e = .returned (.bool true) ∧ Ext w w' := by
  have := Same08_any hA hB (by omega)
  rw [decide_eq_true rfl] at this
  exact this
set_option maxRecDepth 100000 in
set_option maxHeartbeats 2000000 in
theorem known08_any {w : World} (hL : Laid w) : Calls Tryz.prog 15 #[] w fun e w' => e = .returned (.bool true) ∧ Ext w w' := by
  have HL := Lib.hid hL
  clear hL
  go_enter Tryz.func15, Tryz.ntmps15
  go_wp2_with fail
  refine (k8_fac1 (l8_mat2 (v1 := .slice (some ⟨w.heap.size, 0, none⟩) 2 2) (v2 := .slice (some ⟨w.heap.size + 1, 0, none⟩) 2 2) (by go_simp) (by go_simp) (l8_row2 (by go_simp) (by go_simp)) (l8_row2 (by go_simp) (by go_simp))) (HL.out.ext ((((Ext.refl w).alloc _).alloc _).alloc _))).mono ?_
  rintro e w1 ⟨u1, rfl, hu1, hE1⟩
  have X1 := Lib.hid (((((Ext.refl w).alloc _).alloc _).alloc _).trans hE1)
  have H1 := Lib.hid hu1
  clear hu1 hE1
  go_wp2_with fail
  refine (k8_fac2 (l8_mat3 (v1 := .slice (some ⟨w1.heap.size, 0, none⟩) 3 3) (v2 := .slice (some ⟨w1.heap.size + 1, 0, none⟩) 3 3) (v3 := .slice (some ⟨w1.heap.size + 1 + 1, 0, none⟩) 3 3) (by go_simp) (by go_simp) (by go_simp) (l8_row3 (by go_simp) (by go_simp) (by go_simp)) (l8_row3 (by go_simp) (by go_simp) (by go_simp)) (l8_row3 (by go_simp) (by go_simp) (by go_simp))) (HL.out.ext (X1.out.trans (((((Ext.refl w1).alloc _).alloc _).alloc _).alloc _)))).mono ?_
  rintro e w2 ⟨u2, rfl, hu2, hE2⟩
  have E2 := Lib.hid ((((((Ext.refl w1).alloc _).alloc _).alloc _).alloc _).trans hE2)
  have H1b := Lib.hid (H1.out.ext E2.out)
  have X2 := Lib.hid (X1.out.trans E2.out)
  have H2 := Lib.hid hu2
  clear hu2 hE2 E2 H1 X1
  go_wp2_with fail
  refine (k8_order (l8_mat2 (v1 := .slice (some ⟨w2.heap.size, 0, none⟩) 2 2) (v2 := .slice (some ⟨w2.heap.size + 1, 0, none⟩) 2 2) (by go_simp) (by go_simp) (l8_row2 (by go_simp) (by go_simp)) (l8_row2 (by go_simp) (by go_simp))) (l8_row2 (by go_simp) (by go_simp)) (HL.out.ext (X2.out.trans (((((Ext.refl w2).alloc _).alloc _).alloc _).alloc _)))).mono ?_
  rintro e w3 ⟨rfl, hE3⟩
  have E3 := Lib.hid ((((((Ext.refl w2).alloc _).alloc _).alloc _).alloc _).trans hE3)
  have H1c := Lib.hid (H1b.out.ext E3.out)
  have H2b := Lib.hid (H2.out.ext E3.out)
  have X3 := Lib.hid (X2.out.trans E3.out)
  clear hE3 E3 H1b H2 X2
  go_wp2_with fail
  refine (k8_solve (l8_mat2 (v1 := .slice (some ⟨w3.heap.size, 0, none⟩) 2 2) (v2 := .slice (some ⟨w3.heap.size + 1, 0, none⟩) 2 2) (by go_simp) (by go_simp) (l8_row2 (by go_simp) (by go_simp)) (l8_row2 (by go_simp) (by go_simp))) (l8_row2 (by go_simp) (by go_simp)) (HL.out.ext (X3.out.trans (((((Ext.refl w3).alloc _).alloc _).alloc _).alloc _)))).mono ?_
  rintro e w4 ⟨u4, rfl, hu4, hE4⟩
  have E4 := Lib.hid ((((((Ext.refl w3).alloc _).alloc _).alloc _).alloc _).trans hE4)
  have H1d := Lib.hid (H1c.out.ext E4.out)
  have H2c := Lib.hid (H2b.out.ext E4.out)
  have X4 := Lib.hid (X3.out.trans E4.out)
  have H4 := Lib.hid hu4
  clear hu4 hE4 E4 H1c H2b X3
  go_wp2_with fail
  refine (s08_same (a := [2, 4]) (H1d.out.ext ((Ext.refl w4).alloc _)) (l8_row2 (by go_simp) (by go_simp)) (by decide)).mono ?_
  rintro e w5 ⟨rfl, hE5⟩
  have E5 := Lib.hid (((Ext.refl w4).alloc _).trans hE5)
  have H2d := Lib.hid (H2c.out.ext E5.out)
  have H4b := Lib.hid (H4.out.ext E5.out)
  have X5 := Lib.hid (X4.out.trans E5.out)
  clear hE5 E5 H1d H2c H4 X4
  go_wp2_with fail
  refine (s08_same (a := [1, 1, 24]) (H2d.out.ext ((Ext.refl w5).alloc _)) (l8_row3 (by go_simp) (by go_simp) (by go_simp)) (by decide)).mono ?_
  rintro e w6 ⟨rfl, hE6⟩
  have E6 := Lib.hid (((Ext.refl w5).alloc _).trans hE6)
  have H4c := Lib.hid (H4b.out.ext E6.out)
  have X6 := Lib.hid (X5.out.trans E6.out)
  clear hE6 E6 H2d H4b X5
  go_wp2_with fail
  refine (s08_same (a := [2, 3]) (H4c.out.ext ((Ext.refl w6).alloc _)) (l8_row2 (by go_simp) (by go_simp)) (by decide)).mono ?_
  rintro e w7 ⟨rfl, hE7⟩
  have X7 := Lib.hid (X6.out.trans (((Ext.refl w6).alloc _).trans hE7))
  clear hE7 H4c X6
  go_wp2_with fail
  go_ret
  exact ⟨rfl, X7.out⟩
end Go.Proofs.YtcklioolpicmcaaGreatDoor
/- schismalaw08: what Solve says of a small combination -/
namespace Go.Proofs.YtcklioolpicmcaaGreatDoor
open Go.RowKit Go.Sort
/-- A small matrix: at most three rows and columns, elements up to 9. -/
structure SmM (M : Mx) : Prop where
  n3 : M.length ≤ 3
  c3 : ncols M ≤ 3
  rect : Rect (ncols M) M
  ent : ∀ r ∈ M, ∀ z ∈ r, -9 ≤ z ∧ z ≤ 9
theorem sh_small (es : List Int) (C R : Nat) : SmM (shM es (C % 4) (R % 4)) := by
  have hc : ncols (shM es (C % 4) (R % 4)) = 0 ∧ R % 4 = 0 ∨ ncols (shM es (C % 4) (R % 4)) = C % 4 ∧ 0 < R % 4 := by
    rcases Nat.eq_zero_or_pos (R % 4) with h | h
    · left; rw [h]; exact ⟨rfl, rfl⟩
    · right
      refine ⟨?_, h⟩
      unfold ncols
      rw [getD_get (by rw [shM_length]; exact h)]
      exact shM_rect es _ _ _ (List.getElem_mem _)
  refine ⟨by rw [shM_length]; omega, by omega, ?_, shM_b es _ _⟩
  rcases hc with ⟨h1, h2⟩ | ⟨h1, _⟩
  · rw [h2]; intro r hr; cases hr
  · rw [h1]; exact shM_rect es _ _
theorem SmM.cb {M : Mx} (h : SmM M) {l : List Int} (hl : l.length = M.length) (hb : ∀ z ∈ l, -1000000000 ≤ z ∧ z ≤ 1000000000) : CbOk M l (ncols M) := ⟨h.n3, hl, h.rect, h.c3, h.ent, hb⟩
theorem sc_lim {N c : Nat} (hN : N ≤ 3) (hc : c ≤ 3) : 2 * ((bC N 30 (c + N) + (bC N 30 (c + N) + 1) * N) + ((bC N 30 (c + N) + (bC N 30 (c + N) + 1) * N) + 1) * N) + 6 < LIM := by
  rcases (show N = 0 ∨ N = 1 ∨ N = 2 ∨ N = 3 by omega) with rfl | rfl | rfl | rfl <;> rcases (show c = 0 ∨ c = 1 ∨ c = 2 ∨ c = 3 by omega) with rfl | rfl | rfl | rfl <;> decide
theorem sm_check {M : Mx} (h : SmM M) : checkM M = 0 := by
  unfold checkM
  rw [if_neg (by have := h.n3; omega)]
  refine chk_all _ M fun j hj => ?_
  have h1 := h.rect _ (List.getElem_mem hj)
  have h2 := h.ent _ (List.getElem_mem hj)
  have h3 : (M.getD 0 []).length = ncols M := rfl
  rw [h3]
  have h4 := h.c3
  have h5 : M[j].any grt = false := by
    rw [List.any_eq_false]
    intro z hz
    have := h2 z hz
    unfold grt
    simp only [decide_eq_true_eq]
    omega
  unfold chkR
  simp [h1, h5]
  omega
theorem chkRow_small {b : List Int} (hl : b.length ≤ 3) (hb2 : ∀ z ∈ b, -1000000000 ≤ z ∧ z ≤ 1000000000) : chkRow b = 0 := by
  unfold chkRow
  rw [if_neg (by omega)]
  have h5 : b.any grt = false := by
    rw [List.any_eq_false]
    intro z hz
    have := hb2 z hz
    unfold grt
    simp only [decide_eq_true_eq]
    omega
  rw [h5]; rfl
theorem cmbL_length (M : Mx) (l : List Int) (c : Nat) : (cmbL M l c).length = c := by simp [cmbL]
theorem cmbL_b {M : Mx} {l : List Int} (h : SmM M) (_ : l.length = M.length) (hl : ∀ z ∈ l, -40 ≤ z ∧ z ≤ 40) : ∀ z ∈ cmbL M l (ncols M), -1080 ≤ z ∧ z ≤ 1080 := fun z hz => by
  obtain ⟨j, hj, rfl⟩ := List.mem_map.1 hz
  rw [cmb_T3 h.n3]
  have hv : ∀ i, -40 ≤ vr l i ∧ vr l i ≤ 40 := fun i => by
    unfold vr
    by_cases hi : i < l.length
    · rw [getD_get hi]; exact hl _ (List.getElem_mem hi)
    · have : l.getD i 0 = 0 := by simp [List.getD, List.getElem?_eq_none (Nat.le_of_not_lt hi)]
      rw [this]; omega
  have hm : ∀ i, -9 ≤ eM M i j ∧ eM M i j ≤ 9 := fun i => by
    by_cases hi : i < M.length
    · by_cases hj : j < M[i].length
      · unfold eM; rw [getD_get hi, getD_get hj]; exact h.ent _ (List.getElem_mem hi) _ (List.getElem_mem hj)
      · rw [eM_col h.rect (by have := h.rect _ (List.getElem_mem hi); omega)]; omega
    · rw [eM_row (by omega)]; omega
  unfold T3
  have h0 := pb3 (hv 0) (hm 0)
  have h1 := pb3 (hv 1) (hm 1)
  have h2 := pb3 (hv 2) (hm 2)
  omega
theorem sc_solve {w : World} {vm vb : Value} {M : Mx} {l : List Int} (hM : MatR w vm M) (hb : RowR w vb (cmbL M l (ncols M))) (h : SmM M) (hll : l.length = M.length) (hl : ∀ z ∈ l, -40 ≤ z ∧ z ≤ 40) (hL : Laid w) :
    Calls Tryz.prog 20 #[vm, vb] w fun e w' => ∃ u x, e = .returned (.tuple #[u, .bool true, .int .i64 0]) ∧ RowR w' u x ∧ x.length = M.length ∧ (∀ z ∈ x, -1000000000 ≤ z ∧ z ≤ 1000000000) ∧ cmbL M x (ncols M) = cmbL M l (ncols M) ∧ Ext w w' := by
  have hbb := cmbL_b h hll hl
  have hck := sm_check h
  have hcr : chkRow (cmbL M l (ncols M)) = 0 := chkRow_small (by rw [cmbL_length]; exact h.c3) (fun z hz => by have := hbb z hz; omega)
  have hs0 : sizeE M (cmbL M l (ncols M)) = 0 := by
    unfold sizeE
    rw [if_pos hck, if_pos hcr, if_neg]
    rintro ⟨_, h2⟩
    exact h2 (cmbL_length _ _ _)
  rcases Nat.eq_zero_or_pos M.length with h0 | h0
  · have hMe : M = [] := List.length_eq_zero_iff.1 h0
    subst hMe
    obtain ⟨sa, gb, go, cap, vs, rfl, _, _, _, _⟩ := hM
    obtain rfl : l = [] := List.length_eq_zero_iff.1 hll
    refine (Solve_nil (cap := cap) hb hs0 (by rw [cmbL_length]; have := h.c3; omega)).mono ?_
    rintro e w' ⟨rfl, hE⟩
    refine ⟨.slice none 0 0, [], rfl, ⟨none, 0, 0, 0, rfl, Nat.le_refl _, Sl.nil _ _ _ _⟩, rfl, (fun z hz => by cases hz), rfl, hE⟩
  · refine (Solve_any (c := ncols M) (E := bC M.length 30 (ncols M + M.length)) hM hb hs0 h0 rfl rfl (sc_lim h.n3 h.c3) hL).mono ?_
    rintro e w' ⟨H, hH, hE, hp⟩
    obtain ⟨k1, k2, k3⟩ := solX_three h.rect h.n3 h.ent hH hll hl
    rcases hp with ⟨h4, _⟩ | ⟨_, _, u, rfl, hu⟩ | ⟨_, h4, _⟩
    · exact absurd k1 h4
    · refine ⟨u, _, rfl, hu.row, solX_length (cmbL_length _ _ _), fun z hz => ?_, ?_, hE⟩
      · have := List.all_eq_true.1 k2 z hz
        unfold grt at this
        simp only [Bool.not_eq_true', decide_eq_false_iff_not] at this
        omega
      · unfold cmbL
        refine List.map_congr_left fun j hj => ?_
        exact k3 j (List.mem_range.1 hj)
    · rw [k2] at h4; cases h4
end Go.Proofs.YtcklioolpicmcaaGreatDoor
/- schismalaw08: Row -/
namespace Go.Proofs.YtcklioolpicmcaaGreatDoor
open Go.RowKit Go.Sort
def row8 (z : List Int) (n : Nat) : List Int := (z.take n).map fun y => y.tmod 41
theorem row8_length {z : List Int} {n : Nat} (h : n ≤ z.length) : (row8 z n).length = n := by simp [row8]; omega
theorem row8_snoc {z : List Int} {n : Nat} (h : n < z.length) : row8 z n ++ [z[n].tmod 41] = row8 z (n + 1) := by
  unfold row8
  rw [List.take_succ_eq_append_getElem h, List.map_append]
  rfl
theorem row8_b {z : List Int} {n : Nat} : ∀ y ∈ row8 z n, -40 ≤ y ∧ y ≤ 40 := fun y hy => by
  obtain ⟨x, _, rfl⟩ := List.mem_map.1 hy
  have h1 := Int.tmod_lt_of_pos x (b := 41) (by omega)
  have h2 := Int.lt_tmod_of_pos x (b := 41) (by omega)
  omega
set_option maxRecDepth 100000 in
set_option maxHeartbeats 1000000 in
theorem Row08_any {w : World} {z0 z1 z2 : Int} {n : Nat} (hn : n ≤ 3) (h0 : -128 ≤ z0 ∧ z0 ≤ 127) (h1 : -128 ≤ z1 ∧ z1 ≤ 127) (h2 : -128 ≤ z2 ∧ z2 ≤ 127) :
    Calls Tryz.prog 18 #[.agg #[.int .i8 z0, .int .i8 z1, .int .i8 z2], .int .i64 n] w fun e w' => ∃ v, e = .returned v ∧ RowV w.heap.size w' v (row8 [z0, z1, z2] n) ∧ Ext w w' := by
  have hEw := (Ext.refl w).alloc (.cells #[.int .i8 z0, .int .i8 z1, .int .i8 z2] 26)
  have hcell := Lib.hid (fun (j : Nat) (hj : j < 3) => (show (w.alloc (.cells #[.int .i8 z0, .int .i8 z1, .int .i8 z2] 26)).cell? ⟨w.heap.size, j, none⟩ = some (.int .i8 (([z0, z1, z2] : List Int)[j]'hj)) from by
    rcases (show j = 0 ∨ j = 1 ∨ j = 2 by omega) with rfl | rfl | rfl <;> go_simp))
  have hb := Lib.hid (show ∀ y ∈ ([z0, z1, z2] : List Int), -128 ≤ y ∧ y ≤ 127 from fun y hy => by
    simp only [List.mem_cons, List.not_mem_nil, or_false] at hy
    rcases hy with rfl | rfl | rfl <;> assumption)
  have hsz : w.heap.size < (w.alloc (.cells #[.int .i8 z0, .int .i8 z1, .int .i8 z2] 26)).heap.size := by simp
  have hzl : ([z0, z1, z2] : List Int).length = 3 := rfl
  go_enter Tryz.func18, Tryz.ntmps18
  go_wp2_with fail
  generalize (w.alloc (.cells #[.int .i8 z0, .int .i8 z1, .int .i8 z2] 26)) = V at *
  have Hz := Lib.hid hzl
  clear h0 h1 h2 hzl
  go_loopw [5, 6] (fun out idx wr => ∃ k : Nat, k ≤ n ∧ idx = .int .i64 k ∧ Hid (RowV V.heap.size wr out (row8 [z0, z1, z2] k)) ∧ Ext V wr) (fun _ idx _ => n - (intOf idx).toNat)
  case atStart => exact ⟨0, by omega, by go_num, Lib.hid (RowV.nil _ _), Ext.refl _⟩
  case round =>
    obtain ⟨k, hk, rfl, hO, hE⟩ := hrel
    generalize wr = X at *
    by_cases hlt : k < n
    · have hki : (k : Int) < (n : Int) := by omega
      have hk3 : (k : Int) < 3 := by omega
      have hkl : k < ([z0, z1, z2] : List Int).length := by rw [Hz.out]; omega
      have hz' := hE.cell (hcell.out k (by omega))
      have hzb := hb.out _ (List.getElem_mem hkl)
      have hsn := Lib.hid (row8_snoc hkl)
      obtain ⟨z, hz⟩ : ∃ z, z = ([z0, z1, z2] : List Int)[k] := ⟨_, rfl⟩
      rw [← hz] at hz' hzb hsn
      have Hl4 := Lib.hid (show (row8 [z0, z1, z2] k).length ≤ 1000000000 by rw [row8_length (by rw [Hz.out]; omega)]; omega)
      have hrk := row8_length (z := [z0, z1, z2]) (n := k) (by rw [Hz.out]; omega)
      have hsX := hE.size
      clear hz hkl
      generalize row8 [z0, z1, z2] k = r at *
      go_wp2_with (at_builtin; refine app_int rfl _ _ 32 Tryz.underlying32 rfl rfl (hO.out.ext ((Ext.refl _).alloc _)) rfl (b := X.heap.size) (z := z.tmod 41) (by go_simp) Hl4.out (by simp; omega) ?_; intro gg cap2 w8 hO8 hB8 hG8; rw [hrk] at hO8 ⊢)
      have hE8 : Ext V w8 := Below.trans (hE.alloc (.cells #[.int .i64 (z.tmod 41)] 3)) hB8
      rw [hsn.out] at hO8
      have hO9 := Lib.hid hO8
      clear hG8 hB8 hO8
      go_wp2_with fail
      go_roundw
      case rel => exact ⟨k + 1, by omega, by go_num, hO9, hE8⟩
      case measure => simp [intOf] <;> omega
    · have hke : k = n := by omega
      subst hke
      have Hres := Lib.hid (show RowV w.heap.size X _ (row8 [z0, z1, z2] k) from hO.out.mono (by omega))
      go_wp2_with fail
      go_ret
      exact ⟨_, rfl, Hres.out, hEw.trans hE⟩
end Go.Proofs.YtcklioolpicmcaaGreatDoor
/- schismalaw08: SmithCombines, the walk -/
namespace Go.Proofs.YtcklioolpicmcaaGreatDoor
open Go.RowKit Go.Sort
set_option maxRecDepth 100000 in
set_option maxHeartbeats 2000000 in
theorem sc_walk {w : World} {R C : Nat} {e0 e1 e2 e3 e4 e5 e6 e7 e8 z0 z1 z2 : Int} (hG : ShapeV #[.int .u8 R, .int .u8 C, .int .i8 e0, .int .i8 e1, .int .i8 e2, .int .i8 e3, .int .i8 e4, .int .i8 e5, .int .i8 e6, .int .i8 e7, .int .i8 e8] R C [e0, e1, e2, e3, e4, e5, e6, e7, e8])
    (h0 : -128 ≤ z0 ∧ z0 ≤ 127) (h1 : -128 ≤ z1 ∧ z1 ≤ 127) (h2 : -128 ≤ z2 ∧ z2 ≤ 127) (hL : Laid w) :
    Calls Tryz.prog 3 #[.agg #[.int .u8 R, .int .u8 C, .int .i8 e0, .int .i8 e1, .int .i8 e2, .int .i8 e3, .int .i8 e4, .int .i8 e5, .int .i8 e6, .int .i8 e7, .int .i8 e8], .agg #[.int .i8 z0, .int .i8 z1, .int .i8 z2]] w fun e w' => e = .returned (.bool true) ∧ Ext w w' := by
  have HL := Lib.hid hL
  obtain ⟨M, hMd⟩ : ∃ M, M = shM [e0, e1, e2, e3, e4, e5, e6, e7, e8] (C % 4) (R % 4) := ⟨_, rfl⟩
  have hmk := Lib.hid (fun W => Make08_any (w := W) hG)
  rw [← hMd] at hmk
  have hSm : SmM M := by rw [hMd]; exact sh_small _ _ _
  obtain ⟨N, hN⟩ : ∃ N, N = M.length := ⟨_, rfl⟩
  obtain ⟨c, hc⟩ : ∃ c, c = ncols M := ⟨_, rfl⟩
  have hN3 : N ≤ 3 := by rw [hN]; exact hSm.n3
  have hc3 : c ≤ 3 := by rw [hc]; exact hSm.c3
  have hrw := Lib.hid (fun W => Row08_any (w := W) (n := N) hN3 h0 h1 h2)
  obtain ⟨l, hl⟩ : ∃ l, l = row8 [z0, z1, z2] N := ⟨_, rfl⟩
  rw [← hl] at hrw
  have hll : l.length = M.length := by rw [hl, ← hN, row8_length (by simpa using hN3)]
  have hlb : ∀ z ∈ l, -40 ≤ z ∧ z ≤ 40 := by rw [hl]; exact row8_b
  have hcb := Lib.hid (fun W vm vl x (a : MatR W vm M) (b : RowR W vl x) (hx : x.length = M.length) (hb : ∀ z ∈ x, -1000000000 ≤ z ∧ z ≤ 1000000000) => Combine08_any a b (hSm.cb hx hb))
  rw [← hc] at hcb
  have hso := Lib.hid (fun W vm vb (a : MatR W vm M) (b : RowR W vb (cmbL M l (ncols M))) (hL : Laid W) => sc_solve a b hSm hll hlb hL)
  rw [← hc] at hso
  have hco := Lib.hid (fun W vm (a : MatR W vm M) => Columns08_any a)
  rw [← hc] at hco
  have Hll := Lib.hid hll
  have Hlb := Lib.hid (show ∀ z ∈ l, -1000000000 ≤ z ∧ z ≤ 1000000000 from fun z hz => by have := hlb z hz; omega)
  have HN := Lib.hid hN
  clear hG h0 h1 h2 hL hMd hSm hll hlb hl hN hc
  go_enter Tryz.func3, Tryz.ntmps3
  have hX : Ext w ((w.alloc (.cells #[.int .u8 R, .int .u8 C, .int .i8 e0, .int .i8 e1, .int .i8 e2, .int .i8 e3, .int .i8 e4, .int .i8 e5, .int .i8 e6, .int .i8 e7, .int .i8 e8] 25)).alloc (.cells #[.int .i8 z0, .int .i8 z1, .int .i8 z2] 26)) := ((Ext.refl w).alloc _).alloc _
  go_wp2_with fail
  refine (known08_any (HL.out.ext hX)).mono ?_
  rintro e w1 ⟨rfl, hE1⟩
  have s0 : w1.cell? ⟨w.heap.size, 0, none⟩ = some (.int .u8 R) := hE1.cell (by go_simp)
  have s1 : w1.cell? ⟨w.heap.size, 1, none⟩ = some (.int .u8 C) := hE1.cell (by go_simp)
  have s2 : w1.cell? ⟨w.heap.size, 2, none⟩ = some (.int .i8 e0) := hE1.cell (by go_simp)
  have s3 : w1.cell? ⟨w.heap.size, 3, none⟩ = some (.int .i8 e1) := hE1.cell (by go_simp)
  have s4 : w1.cell? ⟨w.heap.size, 4, none⟩ = some (.int .i8 e2) := hE1.cell (by go_simp)
  have s5 : w1.cell? ⟨w.heap.size, 5, none⟩ = some (.int .i8 e3) := hE1.cell (by go_simp)
  have s6 : w1.cell? ⟨w.heap.size, 6, none⟩ = some (.int .i8 e4) := hE1.cell (by go_simp)
  have s7 : w1.cell? ⟨w.heap.size, 7, none⟩ = some (.int .i8 e5) := hE1.cell (by go_simp)
  have s8 : w1.cell? ⟨w.heap.size, 8, none⟩ = some (.int .i8 e6) := hE1.cell (by go_simp)
  have s9 : w1.cell? ⟨w.heap.size, 9, none⟩ = some (.int .i8 e7) := hE1.cell (by go_simp)
  have s10 : w1.cell? ⟨w.heap.size, 10, none⟩ = some (.int .i8 e8) := hE1.cell (by go_simp)
  have t0 : w1.cell? ⟨w.heap.size + 1, 0, none⟩ = some (.int .i8 z0) := hE1.cell (by go_simp)
  have t1 : w1.cell? ⟨w.heap.size + 1, 1, none⟩ = some (.int .i8 z1) := hE1.cell (by go_simp)
  have t2 : w1.cell? ⟨w.heap.size + 1, 2, none⟩ = some (.int .i8 z2) := hE1.cell (by go_simp)
  have hX1 := hX.trans hE1
  clear hX hE1
  go_wp2_with fail
  refine (hmk.out w1).mono ?_
  rintro e w2 ⟨vm, rfl, hvm, hE2⟩
  have hMr := hvm.mat
  obtain ⟨sm, gm, om, cm, vsm, rfl, hcm, _, _, _⟩ := id hMr
  rw [← HN.out] at hMr ⊢
  have HMr := Lib.hid hMr
  replace t0 := hE2.cell t0
  replace t1 := hE2.cell t1
  replace t2 := hE2.cell t2
  have hX2 := hX1.trans hE2
  clear s0 s1 s2 s3 s4 s5 s6 s7 s8 s9 s10 hvm hMr hE2 hX1 hmk
  go_wp2_with fail
  refine (hrw.out w2).mono ?_
  rintro e w3 ⟨vl, rfl, hvl, hE3⟩
  have hRl := hvl.row
  have HRl := Lib.hid hRl
  have hX3 := hX2.trans hE3
  replace HMr := Lib.hid (HMr.out.ext hE3)
  clear t0 t1 t2 hvl hRl hE3 hX2 hrw
  go_wp2_with fail
  refine (hco.out _ _ HMr.out).mono ?_
  rintro e w4 ⟨rfl, hE4⟩
  have hX4 := hX3.trans hE4
  replace HMr := Lib.hid (HMr.out.ext hE4)
  replace HRl := Lib.hid (HRl.out.ext hE4)
  clear hE4 hX3 hco
  go_wp2_with fail
  refine (hcb.out _ _ _ _ HMr.out HRl.out Hll.out Hlb.out).mono ?_
  rintro e w5 ⟨vb, rfl, hvb, hE5⟩
  have hB := hvb.row
  obtain ⟨sb, gb, ob, cb, rfl, hcb5, _⟩ := id hB
  have hbl : (cmbL M l c).length = c := cmbL_length _ _ _
  have HB := Lib.hid (show RowR w5 _ (cmbL M l c) from hB)
  rw [show ((List.range c).map (cmb M (vr l))).length = c by simp] at *
  have hX5 := hX4.trans hE5
  replace HMr := Lib.hid (HMr.out.ext hE5)
  clear hE5 hX4 HRl hvb hB hcb5 hbl
  go_wp2_with fail
  refine (hso.out _ _ _ HMr.out HB.out (HL.out.ext hX5)).mono ?_
  rintro e w6 ⟨u, x, rfl, hu, hxl, hxb, hxe, hE6⟩
  obtain ⟨su, gu, ou, cu, rfl, hcu, _⟩ := id hu
  have hxN : x.length = N := hxl.trans HN.out.symm
  rw [hxN] at hu ⊢
  have HU := Lib.hid hu
  have Hxl := Lib.hid hxl
  have Hxb := Lib.hid hxb
  have Hxe := Lib.hid hxe
  have hX6 := hX5.trans hE6
  replace HMr := Lib.hid (HMr.out.ext hE6)
  replace HB := Lib.hid (HB.out.ext hE6)
  clear hE6 hX5 hu hxl hxb hxe hcu hso hxN
  go_wp2_with fail
  refine (hcb.out _ _ _ _ HMr.out HU.out Hxl.out Hxb.out).mono ?_
  rintro e w7 ⟨vq, rfl, hvq, hE7⟩
  have hq := hvq.row
  have HQ := Lib.hid (show RowR w7 vq (cmbL M l c) from by rw [← Hxe.out]; exact hq)
  have hX7 := hX6.trans hE7
  replace HB := Lib.hid (HB.out.ext hE7)
  clear hE7 hX6 hvq hq hcb HMr HU
  go_wp2_with fail
  refine (s08_same HQ.out HB.out (by rw [cmbL_length]; omega)).mono ?_
  rintro e w8 ⟨rfl, hE8⟩
  go_wp2_with fail
  go_ret
  exact ⟨rfl, hX7.trans hE8⟩
end Go.Proofs.YtcklioolpicmcaaGreatDoor
/- what the rows' frames need: the listed variables, matrices opened -/
namespace Go.Proofs.YtcklioolpicmcaaGreatDoor
open Go.ChangeShapes Go.WideShapes Go.ChangeAt Go.WideMaps Go.WideElems Go.RowKit Go.Deep
theorem fr_own : ownKnob Tryz.prog.godebug = none := by kernel_rfl
theorem fr_laidOut : laidOutB Tryz.prog = true := by kernel_rfl
theorem fr_pow : Tryz.prog.globalNamed "internal/strconv.uint64pow10" = some 3 := by kernel_rfl
theorem fr_powT : (Tryz.prog.globals[3]?).map (·.type) = some 272 := by kernel_rfl
theorem fr_rng : Tryz.prog.globalNamed "strconv.ErrRange" = some 2 := by kernel_rfl
theorem fr_rngT : (Tryz.prog.globals[2]?).map (·.type) = some 192 := by kernel_rfl
theorem fr_c20 : Tryz.prog.cellsOf 272 = 20 := by kernel_rfl
theorem fr_cu : Tryz.prog.cellsOf 208 = 1 := by kernel_rfl
theorem fr_cE : Tryz.prog.cellsOf 277 = 1 := by kernel_rfl
theorem fr_cS : Tryz.prog.cellsOf 9 = 1 := by kernel_rfl
theorem fr_cR : Tryz.prog.cellsOf 32 = 1 := by kernel_rfl
theorem fr_cI : Tryz.prog.cellsOf 3 = 1 := by kernel_rfl
theorem fr_star : "*" ++ "errors.errorString" = "*errors.errorString" := by decide
theorem fr_ptr (u : TypeId) (h : Tryz.prog.typeName? 3 u = some "*errors.errorString") : u = 275 :=
  typeName_ptr_named (nm := "errors.errorString") (by rw [fr_star]; kernel_rfl) (by kernel_rfl) (by decide) u (by rw [fr_star]; exact h)
abbrev fr_list : List (String × DataW Unit) := [("math/bits.deBruijn32tab", Rows.laid_math_bits_deBruijn32tab), ("math/bits.deBruijn64tab", Rows.laid_math_bits_deBruijn64tab), ("internal/strconv.uint64pow10", Rows.laid_internal_strconv_uint64pow10), ("strconv.ErrRange", Rows.laid_strconv_ErrRange), ("strconv.ErrSyntax", Rows.laid_strconv_ErrSyntax)]
theorem fr_tab : (Rows.laid_internal_strconv_uint64pow10 : DataW Unit) = Lib.tabData .u64 Lib.pow10Tab := by kernel_rfl
theorem laid_of {W : World} (h : laidMetH Tryz.prog fr_list W) : Laid W := by
  rw [MakeChecks.laidMetH_plain _ _ _ (by kernel_rfl)] at h
  have h3 := h.tail.tail
  rw [fr_tab] at h3
  refine ⟨Lib.tabIs_of_head fr_pow fr_powT Tryz.underlying272 Tryz.underlying208 fr_cu fr_c20 h3, ?_⟩
  obtain ⟨a, s, hv, _⟩ := laid_sentinel h3.tail fr_rng fr_rngT Tryz.underlying192 fr_ptr Tryz.underlying275 Tryz.underlying277 rfl rfl Tryz.underlying9 fr_cE fr_cS
  exact ⟨_, _, hv⟩
/-- The door's own heap meets the condition. -/
theorem door_met (os : Os) (args : Array Value) : laidMetH Tryz.prog fr_list ((World.doorLaid Tryz.prog 400 os).forCall (fun _ _ => 0) ⟨#[], args, []⟩).memory :=
  laidMetH_of_parts3 (fuel := 8) (laidMet_of_run' 8 (by kernel_rfl) (by kernel_rfl)) (by kernel_rfl) (by kernel_rfl)
theorem row_open {W : World} {A : Option Addr} {L C : Nat} {Z : List Int} {base : Nat} (h1 : L ≤ C) (h2 : Z.length = C) (h3 : A = none → C = 0) (h4 : ∀ a', A = some a' → base ≤ a'.block ∧ ∀ c, c < C → W.cell? (a'.add c) = some (.int .i64 (Z.getD c 0))) : RowR W (.slice A L C) (Z.take L) := by
  have hl : (Z.take L).length = L := by rw [List.length_take]; omega
  cases A with
  | none =>
    have hC := h3 rfl
    refine ⟨none, 0, 0, C, by rw [hl], by rw [hl]; exact h1, fun h => ?_, fun i x hx => ?_⟩
    · rw [is_length, hl] at h; omega
    · have := (List.getElem?_eq_some_iff.1 hx).1
      rw [is_length, hl] at this; omega
  | some a =>
    obtain ⟨_, hc⟩ := h4 a rfl
    have hsp : 0 < L → a.spot = none := fun h => by simpa [Addr.add] using World.cell?_spot (hc 0 (by omega))
    obtain ⟨b, o, sp⟩ := a
    refine ⟨some ⟨b, o, sp⟩, b, o, C, by rw [hl], by rw [hl]; exact h1, fun h => ?_, fun i x hx => ?_⟩
    · rw [is_length, hl] at h
      have := hsp h
      simp at this
      rw [this]
    · have hi := (List.getElem?_eq_some_iff.1 hx).1
      rw [is_length, hl] at hi
      have := hsp (by omega)
      simp at this
      subst this
      rw [is_get (by rw [hl]; exact hi)] at hx
      have e := Option.some.inj hx
      rw [← e, ← add_plain, hc i (by omega), List.getElem_take, getD_get (by omega)]
theorem mat_open {H : Type} {enc : TypeId × Value → H} {W : World} {base : Nat} {held : Bool} {fuel : Nat} {v : Value} {x : DataW H × List MemPlace} (hv : v.cells.toList = [v])
    (h : DataW.trod enc Tryz.prog W base (fun _ => true) held fuel 29 v.cells.toList = some x) : ∃ M, MatR W v M := by
  rw [hv] at h
  rcases open_int_rows Tryz.underlying29 Tryz.underlying32 Tryz.underlying3 fr_cR fr_cI h with ⟨hcs, _⟩ | ⟨a, len, cap, A, L, C, Z, hcs, _, hl, _, _, hrows⟩
  · obtain rfl : v = .slice none 0 0 := by simpa using hcs
    exact ⟨[], none, 0, 0, 0, [], rfl, Nat.le_refl _, rfl, Sl.nil _ _ _ _, fun i h => by simp at h⟩
  · obtain rfl : v = .slice (some a) len cap := by simpa using hcs
    have hsp : 0 < len → a.spot = none := fun h => by simpa [Addr.add] using World.cell?_spot (hrows 0 (by omega)).1
    obtain ⟨b, o, sp⟩ := a
    refine ⟨(List.range len).map fun r => (Z r).take (L r), some ⟨b, o, sp⟩, b, o, cap, (List.range len).map fun r => .slice (A r) (L r) (C r), by simp, by simpa using hl, by simp, ⟨fun h => ?_, fun i y hy => ?_⟩, fun i hi hi' => ?_⟩
    · have := hsp (by simpa using h)
      simp at this
      rw [this]
    · have hi := (List.getElem?_eq_some_iff.1 hy).1
      have hil : i < len := by simpa using hi
      have := hsp (by omega)
      simp at this
      subst this
      have e : y = .slice (A i) (L i) (C i) := by
        rw [List.getElem?_eq_getElem hi] at hy
        have := Option.some.inj hy
        rw [← this]; simp
      rw [e, ← add_plain]
      exact (hrows i (by omega)).1
    · have hil : i < len := by simpa using hi
      obtain ⟨_, r1, _, r3, _, r5, r6⟩ := hrows i (by omega)
      have := row_open r1 r3 r5 r6
      simpa using this
end Go.Proofs.YtcklioolpicmcaaGreatDoor
/- numbers of 8 bits among arguments -/
namespace Go.Proofs.YtcklioolpicmcaaGreatDoor
open Go.ChangeShapes Go.WideShapes Go.ChangeAt Go.WideMaps Go.WideElems Go.RowKit Go.Deep
theorem fr_c8 : Tryz.prog.cellsOf 22 = 1 := by kernel_rfl
theorem fr_cu8 : Tryz.prog.cellsOf 5 = 1 := by kernel_rfl
theorem take_one {l : List Value} {k : Nat} {x : Value} (h : (l.drop k).take 1 = [x]) : l[k]? = some x := by
  have := congrArg (·[0]?) h
  simpa [List.getElem?_take] using this
theorem i8_bounds {n : Int} (h : (Lit.int .i8 n).wf = true) : -128 ≤ n ∧ n ≤ 127 := by
  simp only [Lit.wf, Bool.and_eq_true, decide_eq_true_eq] at h
  have e1 : IntKind.i8.min = -128 := by rfl
  have e2 : IntKind.i8.max = 127 := by rfl
  omega
theorem u8_bounds {n : Int} (h : (Lit.int .u8 n).wf = true) : 0 ≤ n ∧ n ≤ 255 := by
  simp only [Lit.wf, Bool.and_eq_true, decide_eq_true_eq] at h
  have e1 : IntKind.u8.min = 0 := by rfl
  have e2 : IntKind.u8.max = 255 := by rfl
  omega
theorem i8_cells {H : Type} {enc : TypeId × Value → H} {W : World} {base : Nat} {sp : Nat → Bool} {held : Bool} {fuel n : Nat} {t : TypeId} {l : List Value} {x : DataW H × List MemPlace} (ht : Tryz.prog.underlying t = some (.array n 22))
    (h : DataW.trod enc Tryz.prog W base sp held fuel t l = some x) : ∀ j, j < n → ∃ z : Int, l[j]? = some (.int .i8 z) ∧ -128 ≤ z ∧ z ≤ 127 := by
  obtain ⟨xs, m, _, _, _, hxl, hx⟩ := DataW.trod_array ht h
  intro j hj
  have h1 := hx j hj
  rw [fr_c8, Nat.mul_one, List.getElem?_eq_getElem (by omega)] at h1
  obtain ⟨z, hz, _, hw⟩ := DataW.trod_int Tryz.underlying22 h1
  exact ⟨z, take_one hz, i8_bounds hw⟩
end Go.Proofs.YtcklioolpicmcaaGreatDoor
/- shapes of matrices (schismalaw08) among arguments -/
namespace Go.Proofs.YtcklioolpicmcaaGreatDoor
open Go.ChangeShapes Go.WideShapes Go.ChangeAt Go.WideMaps Go.WideElems Go.RowKit Go.Deep
theorem fr_cSh : Tryz.prog.cellsOf 25 = 11 := by kernel_rfl
theorem okWide_arr {P : Program} {w : World} {r : Reach} {base : Nat} {t e : TypeId} {n : Nat} {v : Value} (ht : P.underlying t = some (.array n e)) (h : Value.okWide P w r base t v) : ∃ cs, v = .agg cs ∧ cs.size = P.cellsOf t := by
  simp only [Value.okWide, ht] at h
  obtain ⟨cs, h1, h2, _⟩ := h
  exact ⟨cs, h1, h2⟩
theorem list11s {l : List Value} {a b c d e f g h i j k : Value} (hl : l.length = 11) (h0 : l[0]? = some a) (h1 : l[1]? = some b) (h2 : l[2]? = some c) (h3 : l[3]? = some d) (h4 : l[4]? = some e) (h5 : l[5]? = some f) (h6 : l[6]? = some g) (h7 : l[7]? = some h) (h8 : l[8]? = some i) (h9 : l[9]? = some j) (h10 : l[10]? = some k) : l = [a, b, c, d, e, f, g, h, i, j, k] := by
  refine List.ext_getElem? fun n => ?_
  match n with
  | 0 => exact h0
  | 1 => exact h1
  | 2 => exact h2
  | 3 => exact h3
  | 4 => exact h4
  | 5 => exact h5
  | 6 => exact h6
  | 7 => exact h7
  | 8 => exact h8
  | 9 => exact h9
  | 10 => exact h10
  | n + 11 => rw [List.getElem?_eq_none (by omega), List.getElem?_eq_none (by simp)]
set_option maxRecDepth 100000 in
theorem shape_open {H : Type} {enc : TypeId × Value → H} {W : World} {base : Nat} {sp : Nat → Bool} {held : Bool} {fuel : Nat} {cs : Array Value} {x : DataW H × List MemPlace} (hs : cs.size = 11)
    (h : DataW.trod enc Tryz.prog W base sp held fuel 25 cs.toList = some x) : ∃ (R C : Nat) (e0 e1 e2 e3 e4 e5 e6 e7 e8 : Int), cs = #[.int .u8 R, .int .u8 C, .int .i8 e0, .int .i8 e1, .int .i8 e2, .int .i8 e3, .int .i8 e4, .int .i8 e5, .int .i8 e6, .int .i8 e7, .int .i8 e8] ∧
      ShapeV #[.int .u8 R, .int .u8 C, .int .i8 e0, .int .i8 e1, .int .i8 e2, .int .i8 e3, .int .i8 e4, .int .i8 e5, .int .i8 e6, .int .i8 e7, .int .i8 e8] R C [e0, e1, e2, e3, e4, e5, e6, e7, e8] := by
  obtain ⟨xs, n, _, _, _, hxl, hx⟩ := DataW.trod_struct Tryz.underlying25 h
  have hx3 : xs.length = 3 := hxl
  have h0 := hx 0 _ rfl
  have h1 := hx 1 _ rfl
  have h2 := hx 2 _ rfl
  rw [List.getElem?_eq_getElem (by omega)] at h0 h1 h2
  have h0' : DataW.trod enc Tryz.prog W base sp held n 5 ((cs.toList.drop 0).take 1) = some xs[0] := h0
  have h1' : DataW.trod enc Tryz.prog W base sp held n 5 ((cs.toList.drop 1).take 1) = some xs[1] := h1
  have h2' : DataW.trod enc Tryz.prog W base sp held n 23 ((cs.toList.drop 2).take 9) = some xs[2] := h2
  obtain ⟨a, ha, _, wa⟩ := DataW.trod_int Tryz.underlying5 h0'
  obtain ⟨b, hb, _, wb⟩ := DataW.trod_int Tryz.underlying5 h1'
  have e2 := i8_cells Tryz.underlying23 h2'
  have ba := u8_bounds wa
  have bb := u8_bounds wb
  obtain ⟨z0, k0, b0⟩ := e2 0 (by omega)
  obtain ⟨z1, k1, b1⟩ := e2 1 (by omega)
  obtain ⟨z2, k2, b2⟩ := e2 2 (by omega)
  obtain ⟨z3, k3, b3⟩ := e2 3 (by omega)
  obtain ⟨z4, k4, b4⟩ := e2 4 (by omega)
  obtain ⟨z5, k5, b5⟩ := e2 5 (by omega)
  obtain ⟨z6, k6, b6⟩ := e2 6 (by omega)
  obtain ⟨z7, k7, b7⟩ := e2 7 (by omega)
  obtain ⟨z8, k8, b8⟩ := e2 8 (by omega)
  obtain ⟨R, rfl⟩ : ∃ R : Nat, a = (R : Int) := ⟨a.toNat, by omega⟩
  obtain ⟨C, rfl⟩ : ∃ C : Nat, b = (C : Int) := ⟨b.toNat, by omega⟩
  have hl : cs.toList.length = 11 := by simpa using hs
  have g0 : cs.toList[0]? = some (.int .u8 R) := by
    have := congrArg (fun l : List Value => l[0]?) ha; simpa using this
  have g1 : cs.toList[1]? = some (.int .u8 C) := by
    have := congrArg (fun l : List Value => l[0]?) hb; simpa using this
  have hcs : cs.toList = [.int .u8 R, .int .u8 C, .int .i8 z0, .int .i8 z1, .int .i8 z2, .int .i8 z3, .int .i8 z4, .int .i8 z5, .int .i8 z6, .int .i8 z7, .int .i8 z8] :=
    list11s hl g0 g1 (by simpa using k0) (by simpa using k1) (by simpa using k2) (by simpa using k3) (by simpa using k4) (by simpa using k5) (by simpa using k6) (by simpa using k7) (by simpa using k8)
  refine ⟨R, C, z0, z1, z2, z3, z4, z5, z6, z7, z8, by rw [← Array.toArray_toList (xs := cs), hcs], ⟨rfl, rfl, rfl, rfl, fun j hj => ?_, fun j hj => ?_, by omega, by omega⟩⟩
  · rcases (show j = 0 ∨ j = 1 ∨ j = 2 ∨ j = 3 ∨ j = 4 ∨ j = 5 ∨ j = 6 ∨ j = 7 ∨ j = 8 by omega) with rfl | rfl | rfl | rfl | rfl | rfl | rfl | rfl | rfl <;> rfl
  · rcases (show j = 0 ∨ j = 1 ∨ j = 2 ∨ j = 3 ∨ j = 4 ∨ j = 5 ∨ j = 6 ∨ j = 7 ∨ j = 8 by omega) with rfl | rfl | rfl | rfl | rfl | rfl | rfl | rfl | rfl <;> assumption
end Go.Proofs.YtcklioolpicmcaaGreatDoor
/- schismalaw08.SmithCombines: the law returns true for all arguments, and they read as they did. No condition but what the card itself prints. -/
namespace Go.Proofs.YtcklioolpicmcaaGreatDoor
open Go.ChangeShapes Go.WideShapes Go.ChangeAt Go.WideMaps Go.WideElems Go.RowKit Go.Deep
theorem fr_ca3 : Tryz.prog.cellsOf 26 = 3 := by kernel_rfl
theorem arr3_open {H : Type} {enc : TypeId × Value → H} {W : World} {base : Nat} {sp : Nat → Bool} {held : Bool} {fuel : Nat} {cs : Array Value} {x : DataW H × List MemPlace} (hs : cs.size = 3)
    (h : DataW.trod enc Tryz.prog W base sp held fuel 26 cs.toList = some x) : ∃ z0 z1 z2 : Int, cs = #[.int .i8 z0, .int .i8 z1, .int .i8 z2] ∧ (-128 ≤ z0 ∧ z0 ≤ 127) ∧ (-128 ≤ z1 ∧ z1 ≤ 127) ∧ (-128 ≤ z2 ∧ z2 ≤ 127) := by
  have hE := i8_cells Tryz.underlying26 h
  obtain ⟨z0, k0, b0⟩ := hE 0 (by omega)
  obtain ⟨z1, k1, b1⟩ := hE 1 (by omega)
  obtain ⟨z2, k2, b2⟩ := hE 2 (by omega)
  refine ⟨z0, z1, z2, ?_, b0, b1, b2⟩
  obtain ⟨l⟩ := cs
  match l, hs with
  | [c0, c1, c2], _ =>
    simp at k0 k1 k2
    subst k0 k1 k2
    rfl
set_option maxRecDepth 100000 in
set_option maxHeartbeats 2000000 in
theorem smithCombines_lifted (os : Os) (started : os.Started) (H : Type) (enc : TypeId × Value → H) :
    ReturnsInHanded {} Tryz.checked os 3 .any (fun w args => (Rows.smithCombinesSpec.pre enc Tryz.prog Tryz.f3 [] false w args ∧ laidMetH Tryz.prog fr_list w) ∧ sizedMet enc Tryz.prog Tryz.f3 (OpenSpec.ofChange Rows.smithCombinesSpec) false w args)
      (Rows.smithCombinesSpec.post enc Tryz.prog Tryz.f3 false true false false) := by
  refine returnsInHanded_of_change_and (C := Tryz.checked) (X := fun w _ => laidMetH Tryz.prog fr_list w) (fun _ _ _ hh h => h.of_heap hh) fr_own started (by kernel_rfl) Tryz.func3
    (ChangeSpec.witness_shaped (enc := enc) (C := Tryz.checked) (os := os) (X := fun w _ => laidMetH Tryz.prog fr_list w) false (World.doorLaid Tryz.prog 400 os) #[.agg #[.int .u8 0, .int .u8 0, .int .i8 0, .int .i8 0, .int .i8 0, .int .i8 0, .int .i8 0, .int .i8 0, .int .i8 0, .int .i8 0, .int .i8 0], .agg #[.int .i8 0, .int .i8 0, .int .i8 0]] 8 rfl (World.shaped_of_RefB (by kernel_rfl) (by kernel_rfl)) (by kernel_rfl) (by kernel_rfl) (by kernel_rfl) (door_met os _)) ?_
  intro W base args ds gs before hval0 hW _ _ hL _
  have hval : ∀ (j : Nat) t v, Tryz.f3.params[j]? = some t → args[j]? = some v → Value.okWide Tryz.prog W .any base t v := hval0
  have hW' := hW
  obtain ⟨p, q, hA0, hV, rfl, hfz, hnd⟩ := hW
  have hA : DataW.TrodAll enc Tryz.prog W 0 (fun _ => true) true Tryz.f3.params.toList args.toList ds p := hA0
  rw [Tryz.params3] at hA hval
  obtain ⟨v0, v1, d0, d1, p0, p1, rfl, rfl, rfl, h0, h1⟩ := trodAll_two hA
  obtain ⟨rfl, rfl⟩ := trodVars_none hV
  obtain ⟨cs0, rfl, hs0⟩ := okWide_struct Tryz.underlying25 (hval 0 25 v0 rfl rfl)
  rw [fr_cSh] at hs0
  obtain ⟨cs1, rfl, hs1⟩ := okWide_arr Tryz.underlying26 (hval 1 26 v1 rfl rfl)
  rw [fr_ca3] at hs1
  have h0k := h0
  have h1k := h1
  obtain ⟨fuel0, hf0⟩ := h0
  obtain ⟨R0, C0, e0_0, e0_1, e0_2, e0_3, e0_4, e0_5, e0_6, e0_7, e0_8, rfl, hG0⟩ := shape_open hs0 hf0
  obtain ⟨fuel1, hf1⟩ := h1
  obtain ⟨z1_0, z1_1, z1_2, rfl, b1_0, b1_1, b1_2⟩ := arr3_open hs1 hf1
  clear hA0 hval0 hf0 hf1
  simp only [List.append_nil] at hW'
  have hlt : ∀ z ∈ p0 ++ p1, z.block < W.heap.size := fun z hz => by simpa using hW'.lt z hz
  refine (sc_walk hG0 b1_0 b1_1 b1_2 (laid_of hL)).mono ?_
  rintro e W' ⟨rfl, hE⟩
  have e1 : Rows.smithCombinesSpec.fn H ([d0, d1] ++ []) = { results := [.lit (.bool true)], args := [d0, d1] } := rfl
  refine ⟨_, rfl, _, _, _, [], p0 ++ p1, [], hW', ?_, ?_, ?_, hE.frame _, fun h => by cases h⟩
  · rw [e1]; exact trodAll_mk1 (shut_bool Tryz.underlying4 true)
  · rw [e1]; exact trodAll_mk2 (Below.trod fr_laidOut (by kernel_rfl) (of_decide_eq_true (by kernel_rfl)) h0k hE fun x hx => hlt x (by simp [hx])) (Below.trod fr_laidOut (by kernel_rfl) (of_decide_eq_true (by kernel_rfl)) h1k hE fun x hx => hlt x (by simp [hx]))
  · rw [e1]; rfl
theorem smithCombines_holds : Rows.SmithCombinesSaid :=
  OpenClaim.holds_of_wide 3 Tryz.f3 rfl rfl rfl rfl rfl rfl rfl ⟨rfl, rfl, rfl, rfl, rfl⟩ rfl rfl rfl rfl rfl (by kernel_rfl) Tryz.func3 (by kernel_rfl)
    (of_decide_eq_true (by kernel_rfl)) (by unfold Func.isWrapper; first | (rw [if_pos (by decide +kernel)]; kernel_rfl) | (rw [if_neg (by decide +kernel)]; exact ⟨rfl, rfl⟩))
    (fun os started H enc _ => smithCombines_lifted os started H enc)
theorem smithCombines_card : Rows.SmithCombinesCardSaid :=
  Claim7.holds_tied_plain_at .later [] [.data, .data, .data, .sentinel, .sentinel] true Rows.smithCombinesCard.stood.harness true
    smithCombines_holds (fun _ h => by cases h) (by kernel_rfl) (fun _ h => by cases h) smithCombines_row_tie rfl ⟨rfl, rfl⟩ (by kernel_rfl) rfl
    (fun f fn hf hfn => by
      obtain rfl : f = 3 := Option.some.inj ((show Tryz.prog.funcNamed "schisma/schismalaw08.SmithCombines" = some 3 by kernel_rfl).symm.trans hf) |>.symm
      obtain rfl : fn = Tryz.f3 := (Option.some.inj (Tryz.func3.symm.trans hfn)).symm
      exact ⟨by kernel_rfl, fun j t ht => by
        rw [Tryz.params3] at ht
        have hm : t ∈ [25, 26] := by simpa using Array.mem_of_getElem? ht
        have hall : ([25, 26].all fun u => !Tryz.prog.wantsStandIn u) = true := by kernel_rfl
        exact (show Tryz.prog.wantsStandIn t = false by simpa using List.all_eq_true.1 hall t hm)⟩)
    (by kernel_rfl)
#print axioms smithCombines_card
end Go.Proofs.YtcklioolpicmcaaGreatDoor
