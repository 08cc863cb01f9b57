/- Part 27 of the proof of the claim: contracts of the functions that it reaches, and plain laws; no condition. -/
import Derived.Test.YtokjolmpdfmnbaaGreatDoorW26
import Derived.Test.YtokjolmpdfmnbaaGreatDoorW19
import Derived.Test.YtokjolmpdfmnbaaGreatDoorW01
namespace Go.Proofs.YtokjolmpdfmnbaaGreatDoor
open Go.RowKit Go.Sort
theorem l8_row2 {W : World} {b : Nat} {x y : Int} (c0 : W.cell? ⟨b, 0, none⟩ = some (.int .i64 x)) (c1 : W.cell? ⟨b, 1, none⟩ = some (.int .i64 y)) : RowR W (.slice (some ⟨b, 0, none⟩) 2 2) [x, y] :=
  ⟨_, b, 0, 2, rfl, Nat.le_refl _, fun _ => rfl, fun i v hv => by
    match i, hv with
    | 0, hv => simp [is] at hv; rw [← hv]; exact c0
    | 1, hv => simp [is] at hv; rw [← hv]; exact c1
    | i + 2, hv => simp [is] at hv⟩
theorem l8_row3 {W : World} {b : Nat} {x y z : Int} (c0 : W.cell? ⟨b, 0, none⟩ = some (.int .i64 x)) (c1 : W.cell? ⟨b, 1, none⟩ = some (.int .i64 y)) (c2 : W.cell? ⟨b, 2, none⟩ = some (.int .i64 z)) : RowR W (.slice (some ⟨b, 0, none⟩) 3 3) [x, y, z] :=
  ⟨_, b, 0, 3, rfl, Nat.le_refl _, fun _ => rfl, fun i v hv => by
    match i, hv with
    | 0, hv => simp [is] at hv; rw [← hv]; exact c0
    | 1, hv => simp [is] at hv; rw [← hv]; exact c1
    | 2, hv => simp [is] at hv; rw [← hv]; exact c2
    | i + 3, hv => simp [is] at hv⟩
theorem l8_mat2 {W : World} {b : Nat} {v1 v2 : Value} {r1 r2 : List Int} (c0 : W.cell? ⟨b, 0, none⟩ = some v1) (c1 : W.cell? ⟨b, 1, none⟩ = some v2) (R1 : RowR W v1 r1) (R2 : RowR W v2 r2) : MatR W (.slice (some ⟨b, 0, none⟩) 2 2) [r1, r2] :=
  ⟨_, b, 0, 2, [v1, v2], rfl, Nat.le_refl _, rfl, ⟨fun _ => rfl, fun i v hv => by
    match i, hv with
    | 0, hv => simp at hv; rw [← hv]; exact c0
    | 1, hv => simp at hv; rw [← hv]; exact c1
    | i + 2, hv => simp at hv⟩, fun i h h' => by
    match i, h with
    | 0, _ => exact R1
    | 1, _ => exact R2⟩
theorem l8_mat3 {W : World} {b : Nat} {v1 v2 v3 : Value} {r1 r2 r3 : List Int} (c0 : W.cell? ⟨b, 0, none⟩ = some v1) (c1 : W.cell? ⟨b, 1, none⟩ = some v2) (c2 : W.cell? ⟨b, 2, none⟩ = some v3) (R1 : RowR W v1 r1) (R2 : RowR W v2 r2) (R3 : RowR W v3 r3) : MatR W (.slice (some ⟨b, 0, none⟩) 3 3) [r1, r2, r3] :=
  ⟨_, b, 0, 3, [v1, v2, v3], rfl, Nat.le_refl _, rfl, ⟨fun _ => rfl, fun i v hv => by
    match i, hv with
    | 0, hv => simp at hv; rw [← hv]; exact c0
    | 1, hv => simp at hv; rw [← hv]; exact c1
    | 2, hv => simp at hv; rw [← hv]; exact c2
    | i + 3, hv => simp at hv⟩, fun i h h' => by
    match i, h with
    | 0, _ => exact R1
    | 1, _ => exact R2
    | 2, _ => exact R3⟩
theorem k8_fac1 {w : World} {v : Value} (hM : MatR w v [[2, 4], [6, 8]]) (hL : Laid w) : Calls Tryz.prog 39 #[v] w fun e w' => ∃ u, e = .returned (.tuple #[u, .int .i64 0]) ∧ RowR w' u [2, 4] ∧ Ext w w' := by
  obtain ⟨a, h1, h2, h3⟩ := k8_run1
  refine (Factors_any (M := k8A) (c := 2) (f := 40) (E := 64) hM (by decide) (by decide) (by decide) (by decide) h1 (by decide) (by decide) h3 (by decide) (by decide) hL).mono ?_
  rintro e w' ⟨hp, hE⟩
  rw [h2, if_pos (by decide)] at hp
  obtain ⟨u, rfl, hu⟩ := hp
  exact ⟨u, rfl, hu.row, hE⟩
theorem k8_fac2 {w : World} {v : Value} (hM : MatR w v [[-4, 4, -1], [7, 0, -3], [2, 0, 0]]) (hL : Laid w) : Calls Tryz.prog 39 #[v] w fun e w' => ∃ u, e = .returned (.tuple #[u, .int .i64 0]) ∧ RowR w' u [1, 1, 24] ∧ Ext w w' := by
  obtain ⟨a, h1, h2, h3⟩ := k8_run2
  refine (Factors_any (M := k8B) (c := 3) (f := 60) (E := 64) hM (by decide) (by decide) (by decide) (by decide) h1 (by decide) (by decide) h3 (by decide) (by decide) hL).mono ?_
  rintro e w' ⟨hp, hE⟩
  rw [h2, if_pos (by decide)] at hp
  obtain ⟨u, rfl, hu⟩ := hp
  exact ⟨u, rfl, hu.row, hE⟩
theorem k8_order {w : World} {vm vb : Value} (hM : MatR w vm [[2, 0], [0, 3]]) (hb : RowR w vb [1, 1]) (hL : Laid w) : Calls Tryz.prog 11 #[vm, vb] w fun e w' => e = .returned (.tuple #[.int .i64 6, .bool true, .int .i64 0]) ∧ Ext w w' := by
  refine (Order_any (M := k8C) (x := [1, 1]) (c := 2) hM hb (by decide) (by decide) (by decide) (by decide) (by decide) (fun H hH => by rw [hnf_c hH]; exact k8_bnd) hL).mono ?_
  rintro e w' ⟨H, hH, hE, s, k, hs, hp⟩
  rw [hnf_c hH] at hs
  have h2 := k8_ord.symm.trans hs
  simp only [Prod.mk.injEq] at h2
  obtain ⟨rfl, rfl⟩ := h2
  rw [if_neg (by decide), if_pos (by decide)] at hp
  exact ⟨hp, hE⟩
theorem k8_solve {w : World} {vm vb : Value} (hM : MatR w vm [[2, 0], [0, 3]]) (hb : RowR w vb [4, 9]) (hL : Laid w) : Calls Tryz.prog 40 #[vm, vb] w fun e w' => ∃ u, e = .returned (.tuple #[u, .bool true, .int .i64 0]) ∧ RowR w' u [2, 3] ∧ Ext w w' := by
  refine (Solve_any (M := k8C) (b := [4, 9]) (c := 2) (E := bC 2 30 4) hM hb (by decide) (by decide) (by decide) rfl (by decide) hL).mono ?_
  rintro e w' ⟨H, hH, hE, hp⟩
  have hH' := hnf_w hH
  subst hH'
  obtain ⟨h1, h2, h3⟩ := k8_sol
  rcases hp with ⟨h4, _⟩ | ⟨_, _, u, rfl, hu⟩ | ⟨_, h4, _⟩
  · exact absurd h1 h4
  · refine ⟨u, rfl, ?_, hE⟩
    have := hu.row
    rw [show solX 2 k8W k8C.length [4, 9] = [2, 3] from h3] at this
    exact this
  · rw [show solX 2 k8W k8C.length [4, 9] = solX 2 k8W 2 [4, 9] from rfl, h2] at h4; cases h4
theorem s08_same {w : World} {va vb : Value} {a : List Int} (hA : RowR w va a) (hB : RowR w vb a) (hl : a.length ≤ 10) : Calls Tryz.prog 41 #[va, vb] w fun e w' => e = .returned (.bool true) ∧ Ext w w' := by
  have := Same08_any hA hB (by omega)
  rw [decide_eq_true rfl] at this
  exact this
set_option maxRecDepth 100000 in
set_option maxHeartbeats 2000000 in
theorem known08_any {w : World} (hL : Laid w) : Calls Tryz.prog 8 #[] w fun e w' => e = .returned (.bool true) ∧ Ext w w' := by
  have HL := Lib.hid hL
  clear hL
  go_enter Tryz.func8, Tryz.ntmps8
  go_wp2_with fail
  refine (k8_fac1 (l8_mat2 (v1 := .slice (some ⟨w.heap.size, 0, none⟩) 2 2) (v2 := .slice (some ⟨w.heap.size + 1, 0, none⟩) 2 2) (by go_simp) (by go_simp) (l8_row2 (by go_simp) (by go_simp)) (l8_row2 (by go_simp) (by go_simp))) (HL.out.ext ((((Ext.refl w).alloc _).alloc _).alloc _))).mono ?_
  rintro e w1 ⟨u1, rfl, hu1, hE1⟩
  have X1 := Lib.hid (((((Ext.refl w).alloc _).alloc _).alloc _).trans hE1)
  have H1 := Lib.hid hu1
  clear hu1 hE1
  go_wp2_with fail
  refine (k8_fac2 (l8_mat3 (v1 := .slice (some ⟨w1.heap.size, 0, none⟩) 3 3) (v2 := .slice (some ⟨w1.heap.size + 1, 0, none⟩) 3 3) (v3 := .slice (some ⟨w1.heap.size + 1 + 1, 0, none⟩) 3 3) (by go_simp) (by go_simp) (by go_simp) (l8_row3 (by go_simp) (by go_simp) (by go_simp)) (l8_row3 (by go_simp) (by go_simp) (by go_simp)) (l8_row3 (by go_simp) (by go_simp) (by go_simp))) (HL.out.ext (X1.out.trans (((((Ext.refl w1).alloc _).alloc _).alloc _).alloc _)))).mono ?_
  rintro e w2 ⟨u2, rfl, hu2, hE2⟩
  have E2 := Lib.hid ((((((Ext.refl w1).alloc _).alloc _).alloc _).alloc _).trans hE2)
  have H1b := Lib.hid (H1.out.ext E2.out)
  have X2 := Lib.hid (X1.out.trans E2.out)
  have H2 := Lib.hid hu2
  clear hu2 hE2 E2 H1 X1
  go_wp2_with fail
  refine (k8_order (l8_mat2 (v1 := .slice (some ⟨w2.heap.size, 0, none⟩) 2 2) (v2 := .slice (some ⟨w2.heap.size + 1, 0, none⟩) 2 2) (by go_simp) (by go_simp) (l8_row2 (by go_simp) (by go_simp)) (l8_row2 (by go_simp) (by go_simp))) (l8_row2 (by go_simp) (by go_simp)) (HL.out.ext (X2.out.trans (((((Ext.refl w2).alloc _).alloc _).alloc _).alloc _)))).mono ?_
  rintro e w3 ⟨rfl, hE3⟩
  have E3 := Lib.hid ((((((Ext.refl w2).alloc _).alloc _).alloc _).alloc _).trans hE3)
  have H1c := Lib.hid (H1b.out.ext E3.out)
  have H2b := Lib.hid (H2.out.ext E3.out)
  have X3 := Lib.hid (X2.out.trans E3.out)
  clear hE3 E3 H1b H2 X2
  go_wp2_with fail
  refine (k8_solve (l8_mat2 (v1 := .slice (some ⟨w3.heap.size, 0, none⟩) 2 2) (v2 := .slice (some ⟨w3.heap.size + 1, 0, none⟩) 2 2) (by go_simp) (by go_simp) (l8_row2 (by go_simp) (by go_simp)) (l8_row2 (by go_simp) (by go_simp))) (l8_row2 (by go_simp) (by go_simp)) (HL.out.ext (X3.out.trans (((((Ext.refl w3).alloc _).alloc _).alloc _).alloc _)))).mono ?_
  rintro e w4 ⟨u4, rfl, hu4, hE4⟩
  have E4 := Lib.hid ((((((Ext.refl w3).alloc _).alloc _).alloc _).alloc _).trans hE4)
  have H1d := Lib.hid (H1c.out.ext E4.out)
  have H2c := Lib.hid (H2b.out.ext E4.out)
  have X4 := Lib.hid (X3.out.trans E4.out)
  have H4 := Lib.hid hu4
  clear hu4 hE4 E4 H1c H2b X3
  go_wp2_with fail
  refine (s08_same (a := [2, 4]) (H1d.out.ext ((Ext.refl w4).alloc _)) (l8_row2 (by go_simp) (by go_simp)) (by decide)).mono ?_
  rintro e w5 ⟨rfl, hE5⟩
  have E5 := Lib.hid (((Ext.refl w4).alloc _).trans hE5)
  have H2d := Lib.hid (H2c.out.ext E5.out)
  have H4b := Lib.hid (H4.out.ext E5.out)
  have X5 := Lib.hid (X4.out.trans E5.out)
  clear hE5 E5 H1d H2c H4 X4
  go_wp2_with fail
  refine (s08_same (a := [1, 1, 24]) (H2d.out.ext ((Ext.refl w5).alloc _)) (l8_row3 (by go_simp) (by go_simp) (by go_simp)) (by decide)).mono ?_
  rintro e w6 ⟨rfl, hE6⟩
  have E6 := Lib.hid (((Ext.refl w5).alloc _).trans hE6)
  have H4c := Lib.hid (H4b.out.ext E6.out)
  have X6 := Lib.hid (X5.out.trans E6.out)
  clear hE6 E6 H2d H4b X5
  go_wp2_with fail
  refine (s08_same (a := [2, 3]) (H4c.out.ext ((Ext.refl w6).alloc _)) (l8_row2 (by go_simp) (by go_simp)) (by decide)).mono ?_
  rintro e w7 ⟨rfl, hE7⟩
  have X7 := Lib.hid (X6.out.trans (((Ext.refl w6).alloc _).trans hE7))
  clear hE7 H4c X6
  go_wp2_with fail
  go_ret
  exact ⟨rfl, X7.out⟩
end Go.Proofs.YtokjolmpdfmnbaaGreatDoor
namespace Go.Proofs.YtokjolmpdfmnbaaGreatDoor
open Go.RowKit Go.Sort
structure SmM (M : Mx) : Prop where
  n3 : M.length ≤ 3
  c3 : ncols M ≤ 3
  rect : Rect (ncols M) M
  ent : ∀ r ∈ M, ∀ z ∈ r, -9 ≤ z ∧ z ≤ 9
theorem sh_small (es : List Int) (C R : Nat) : SmM (shM es (C % 4) (R % 4)) := by
  have hc : ncols (shM es (C % 4) (R % 4)) = 0 ∧ R % 4 = 0 ∨ ncols (shM es (C % 4) (R % 4)) = C % 4 ∧ 0 < R % 4 := by
    rcases Nat.eq_zero_or_pos (R % 4) with h | h
    · left; rw [h]; exact ⟨rfl, rfl⟩
    · right
      refine ⟨?_, h⟩
      unfold ncols
      rw [getD_get (by rw [shM_length]; exact h)]
      exact shM_rect es _ _ _ (List.getElem_mem _)
  refine ⟨by rw [shM_length]; omega, by omega, ?_, shM_b es _ _⟩
  rcases hc with ⟨h1, h2⟩ | ⟨h1, _⟩
  · rw [h2]; intro r hr; cases hr
  · rw [h1]; exact shM_rect es _ _
theorem SmM.cb {M : Mx} (h : SmM M) {l : List Int} (hl : l.length = M.length) (hb : ∀ z ∈ l, -1000000000 ≤ z ∧ z ≤ 1000000000) : CbOk M l (ncols M) := ⟨h.n3, hl, h.rect, h.c3, h.ent, hb⟩
theorem sm_check {M : Mx} (h : SmM M) : checkM M = 0 := by
  unfold checkM
  rw [if_neg (by have := h.n3; omega)]
  refine chk_all _ M fun j hj => ?_
  have h1 := h.rect _ (List.getElem_mem hj)
  have h2 := h.ent _ (List.getElem_mem hj)
  have h3 : (M.getD 0 []).length = ncols M := rfl
  rw [h3]
  have h4 := h.c3
  have h5 : M[j].any grt = false := by
    rw [List.any_eq_false]
    intro z hz
    have := h2 z hz
    unfold grt
    simp only [decide_eq_true_eq]
    omega
  unfold chkR
  simp [h1, h5]
  omega
end Go.Proofs.YtokjolmpdfmnbaaGreatDoor
namespace Go.Proofs.YtokjolmpdfmnbaaGreatDoor
structure Qd where
  x : Int
  y : Int
  z : Int
  u : Int
def Rs (p m : Int) : Prop := (0 < p ∧ 0 ≤ m ∧ m < p) ∨ (p < 0 ∧ p < m ∧ m ≤ 0)
theorem rs_fmod (a : Int) {p : Int} (hp : p ≠ 0) : Rs p (a.fmod p) := by
  rcases Int.lt_or_gt_of_ne hp with h | h
  · obtain ⟨_, h2, h3⟩ := (Int.fdiv_fmod_unique' (a := a) (b := p) (r := a.fmod p) (q := a.fdiv p) h).1 ⟨rfl, rfl⟩
    exact .inr ⟨h, h2, h3⟩
  · obtain ⟨_, h2, h3⟩ := (Int.fdiv_fmod_unique (a := a) (b := p) (r := a.fmod p) (q := a.fdiv p) h).1 ⟨rfl, rfl⟩
    exact .inl ⟨h, h2, h3⟩
theorem rs_uni {a p q m : Int} (h : m + p * q = a) (hr : Rs p m) : a.fmod p = m ∧ a.fdiv p = q := by
  rcases hr with ⟨h0, h1, h2⟩ | ⟨h0, h1, h2⟩
  · have := (Int.fdiv_fmod_unique (a := a) h0).2 ⟨h, h1, h2⟩; exact ⟨this.2, this.1⟩
  · have := (Int.fdiv_fmod_unique' (a := a) h0).2 ⟨h, h1, h2⟩; exact ⟨this.2, this.1⟩
theorem fmod_self' {p : Int} (hp : p ≠ 0) : p.fmod p = 0 ∧ p.fdiv p = 1 := rs_uni (by omega) (by unfold Rs; omega)
theorem fmod_zero' {p : Int} (hp : p ≠ 0) : (0 : Int).fmod p = 0 ∧ (0 : Int).fdiv p = 0 := rs_uni (by simp) (by unfold Rs; omega)
theorem fmod_eq (a p : Int) : a.fmod p = a - p * a.fdiv p := by have := Int.fmod_add_mul_fdiv a p; omega
structure PivQ (q p : Qd) : Prop where
  ne : p.x ≠ 0
  lx : q.x = 0 ∨ p.x.natAbs ≤ q.x.natAbs
  ly : q.y = 0 ∨ p.x.natAbs ≤ q.y.natAbs
  lz : q.z = 0 ∨ p.x.natAbs ≤ q.z.natAbs
  lu : q.u = 0 ∨ p.x.natAbs ≤ q.u.natAbs
  how : p = q ∨ (p = ⟨q.y, q.x, q.u, q.z⟩ ∧ (q.x = 0 ∨ p.x.natAbs < q.x.natAbs)) ∨ (p = ⟨q.z, q.u, q.x, q.y⟩ ∧ (q.x = 0 ∨ p.x.natAbs < q.x.natAbs))
    ∨ (p = ⟨q.u, q.z, q.y, q.x⟩ ∧ (q.x = 0 ∨ p.x.natAbs < q.x.natAbs) ∧ (q.y = 0 ∨ p.x.natAbs < q.y.natAbs) ∧ (q.z = 0 ∨ p.x.natAbs < q.z.natAbs))
def clq (p : Qd) : Qd := ⟨p.x, p.y.fmod p.x, p.z.fmod p.x, p.u - p.z.fdiv p.x * p.y - p.y.fdiv p.x * p.z.fmod p.x⟩
inductive Stp (q q' : Qd) : Prop
  | un (p : Qd) (hp : PivQ q p) (h : q' = clq p) (hn : (clq p).y ≠ 0 ∨ (clq p).z ≠ 0)
  | sp (p : Qd) (hp : PivQ q p) (h0 : (clq p).y = 0) (h1 : (clq p).z = 0) (h2 : (clq p).u.fmod p.x ≠ 0) (h : q' = ⟨p.x, (clq p).u, 0, (clq p).u⟩)
def Bnd : Nat → Qd → Prop
  | 0, _ => False
  | N + 1, q => ∀ q', Stp q q' → Bnd N q'
theorem Bnd.mono : ∀ {N : Nat} {q : Qd}, Bnd N q → Bnd (N + 1) q
  | 0, _, h => h.elim
  | N + 1, _, h => fun q' hs => Bnd.mono (N := N) (h q' hs)
theorem Bnd.le {N : Nat} {q : Qd} (h : Bnd N q) : ∀ d, Bnd (N + d) q
  | 0 => h
  | d + 1 => (h.le d).mono
def Low (B : Nat) (q : Qd) : Prop := ∃ e : Int, (e = q.x ∨ e = q.y ∨ e = q.z ∨ e = q.u) ∧ e ≠ 0 ∧ e.natAbs < B
theorem PivQ.low {q p : Qd} {B : Nat} (h : PivQ q p) (hl : Low B q) : p.x.natAbs < B := by
  obtain ⟨e, he, h0, hb⟩ := hl
  rcases he with rfl | rfl | rfl | rfl
  · rcases h.lx with h1 | h1
    · exact absurd h1 h0
    · omega
  · rcases h.ly with h1 | h1
    · exact absurd h1 h0
    · omega
  · rcases h.lz with h1 | h1
    · exact absurd h1 h0
    · omega
  · rcases h.lu with h1 | h1
    · exact absurd h1 h0
    · omega
def Un (q : Qd) : Prop := q.x ≠ 0 ∧ Rs q.x q.y ∧ Rs q.x q.z ∧ (q.y ≠ 0 ∨ q.z ≠ 0)
theorem un_clq {q p : Qd} (hp : PivQ q p) (hn : (clq p).y ≠ 0 ∨ (clq p).z ≠ 0) : Un (clq p) := ⟨hp.ne, rs_fmod _ hp.ne, rs_fmod _ hp.ne, hn⟩
theorem sub_one {x y : Int} {B : Nat} (h : Rs x y) (hy : y ≠ 0) (hx : x.natAbs < 2 * B) (hB : B ≤ y.natAbs) : x.fmod y = x - y := (rs_uni (q := 1) (by omega) (by unfold Rs at *; omega)).1
section
variable {B N : Nat} (hL : ∀ q, Low B q → Bnd N q)
include hL
theorem bnd_far {q : Qd} (hU : Un q) (hx : q.x.natAbs < 2 * B) (hu : q.u = 0 ∨ q.x.natAbs ≤ q.u.natAbs) : Bnd (N + 1) q := by
  obtain ⟨x, y, z, u⟩ := q
  obtain ⟨h0, hy, hz, hne⟩ := hU
  simp only at h0 hy hz hne hx hu
  intro q' hs
  have key : ∀ p : Qd, PivQ ⟨x, y, z, u⟩ p → B ≤ p.x.natAbs → ((clq p).y ≠ 0 ∧ (clq p).y.natAbs < B) ∨ ((clq p).z ≠ 0 ∧ (clq p).z.natAbs < B) := by
    intro p hp hb
    rcases hp.how with h | ⟨h, h1⟩ | ⟨h, h1⟩ | ⟨h, h1, _, _⟩
    · subst h
      exfalso
      have a1 := hp.ly
      have a2 := hp.lz
      simp only at a1 a2 hb
      unfold Rs at hy hz
      omega
    · subst h
      have hb' : B ≤ y.natAbs := hb
      have hn : y ≠ 0 := hp.ne
      have e := sub_one hy hn hx hb'
      left
      show x.fmod y ≠ 0 ∧ (x.fmod y).natAbs < B
      rw [e]
      unfold Rs at hy
      omega
    · subst h
      have hb' : B ≤ z.natAbs := hb
      have hn : z ≠ 0 := hp.ne
      have e := sub_one hz hn hx hb'
      right
      show x.fmod z ≠ 0 ∧ (x.fmod z).natAbs < B
      rw [e]
      unfold Rs at hz
      omega
    · subst h
      exfalso
      have hn : u ≠ 0 := hp.ne
      simp only at h1
      omega
  rcases hs with ⟨p, hp, rfl, hn⟩ | ⟨p, hp, h1, h2, h3, rfl⟩
  · by_cases hb : p.x.natAbs < B
    · exact hL _ ⟨p.x, .inl rfl, hp.ne, hb⟩
    · rcases key p hp (by omega) with ⟨k1, k2⟩ | ⟨k1, k2⟩
      · exact hL _ ⟨_, .inr (.inl rfl), k1, k2⟩
      · exact hL _ ⟨_, .inr (.inr (.inl rfl)), k1, k2⟩
  · by_cases hb : p.x.natAbs < B
    · exact hL _ ⟨p.x, .inl rfl, hp.ne, hb⟩
    · rcases key p hp (by omega) with ⟨k1, _⟩ | ⟨k1, _⟩
      · exact absurd h1 k1
      · exact absurd h2 k1
omit hL in
theorem blk_pos {x y z u m n w : Int} (hy0 : 0 ≤ y) (hz0 : 0 ≤ z) (hu : u < 0) (hy : -u < y) (hz : (z = 0 ∧ n = 0) ∨ -u < z) (hm : u < m ∧ m ≤ 0) (hn : u < n ∧ n ≤ 0)
    (h : u * w = u * x - y * z + m * n) : x ≤ w := by
  refine Classical.byContradiction fun hc => ?_
  have h1 : 0 < u * (w - x) := Int.mul_pos_of_neg_of_neg hu (by omega)
  rw [Int.mul_sub] at h1
  have h2 : m * n ≤ y * z := by
    rcases hz with ⟨rfl, rfl⟩ | hz
    · simp
    · have h3 : (-m) * (-n) ≤ y * z := Int.mul_le_mul (by omega) (by omega) (by omega) hy0
      rwa [Int.neg_mul_neg] at h3
  omega
omit hL in
theorem blk {x y z u m n w : Int} (hxy : Rs x y) (hxz : Rs x z) (hu : u ≠ 0) (hop : (0 < x ∧ u < 0) ∨ (x < 0 ∧ 0 < u)) (hy : u.natAbs < y.natAbs) (hz : (z = 0 ∧ n = 0) ∨ u.natAbs < z.natAbs) (hm : Rs u m) (hn : Rs u n)
    (h : u * w = u * x - y * z + m * n) : x.natAbs ≤ w.natAbs := by
  unfold Rs at *
  rcases hop with ⟨hx, hu⟩ | ⟨hx, hu⟩
  · have := blk_pos (x := x) (y := y) (z := z) (u := u) (m := m) (n := n) (w := w) (by omega) (by omega) hu (by omega) (by omega) (by omega) (by omega) h
    omega
  · have := blk_pos (x := -x) (y := -y) (z := -z) (u := -u) (m := -m) (n := -n) (w := -w) (by omega) (by omega) (by omega) (by omega) (by omega) (by omega) (by omega) (by rw [Int.neg_mul_neg, Int.neg_mul_neg, Int.neg_mul_neg, Int.neg_mul_neg]; exact h)
    omega
omit hL in
theorem clq_det (p : Qd) : p.x * (clq p).u = (p.x * p.u - p.y * p.z) + (clq p).y * (clq p).z := by
  show p.x * (p.u - p.z.fdiv p.x * p.y - p.y.fdiv p.x * p.z.fmod p.x) = _ + p.y.fmod p.x * p.z.fmod p.x
  rw [fmod_eq, fmod_eq]
  generalize p.z.fdiv p.x = a
  generalize p.y.fdiv p.x = b
  grind
theorem bnd_un {q : Qd} (hU : Un q) (hx : q.x.natAbs < 2 * B) : Bnd (N + 2) q := by
  obtain ⟨x, y, z, u⟩ := q
  have hU0 := hU
  obtain ⟨h0, hy, hz, hne⟩ := hU
  simp only at h0 hy hz hne hx
  by_cases hu : u = 0 ∨ x.natAbs ≤ u.natAbs
  · exact (bnd_far hL hU0 hx hu).mono
  intro q' hs
  have key : ∀ p : Qd, PivQ ⟨x, y, z, u⟩ p → B ≤ p.x.natAbs → ((clq p).y ≠ 0 ∧ (clq p).y.natAbs < B) ∨ ((clq p).z ≠ 0 ∧ (clq p).z.natAbs < B) ∨ (Un (clq p) ∧ p.x.natAbs < 2 * B ∧ p.x.natAbs ≤ (clq p).u.natAbs) := by
    intro p hp hb
    rcases hp.how with h | ⟨h, h1⟩ | ⟨h, h1⟩ | ⟨h, h1, h2, h3⟩
    · subst h
      exfalso
      have a1 := hp.ly
      have a2 := hp.lz
      simp only at a1 a2 hb
      unfold Rs at hy hz
      omega
    · subst h
      have hb' : B ≤ y.natAbs := hb
      have hn : y ≠ 0 := hp.ne
      have e := sub_one hy hn hx hb'
      left
      show x.fmod y ≠ 0 ∧ (x.fmod y).natAbs < B
      rw [e]
      unfold Rs at hy
      omega
    · subst h
      have hb' : B ≤ z.natAbs := hb
      have hn : z ≠ 0 := hp.ne
      have e := sub_one hz hn hx hb'
      right; left
      show x.fmod z ≠ 0 ∧ (x.fmod z).natAbs < B
      rw [e]
      unfold Rs at hz
      omega
    · subst h
      have hn : u ≠ 0 := hp.ne
      have hb' : B ≤ u.natAbs := hb
      simp only at h1 h2 h3
      have hdet := clq_det ⟨u, z, y, x⟩
      have hm := rs_fmod y hn
      have hm2 := rs_fmod z hn
      by_cases hsg : (0 < x ∧ 0 < u) ∨ (x < 0 ∧ u < 0)
      · rcases hne with hne | hne
        · have e : y.fmod u = y - u := (rs_uni (q := 1) (by omega) (by unfold Rs at *; omega)).1
          right; left
          show y.fmod u ≠ 0 ∧ (y.fmod u).natAbs < B
          rw [e]; unfold Rs at hy; omega
        · have e : z.fmod u = z - u := (rs_uni (q := 1) (by omega) (by unfold Rs at *; omega)).1
          left
          show z.fmod u ≠ 0 ∧ (z.fmod u).natAbs < B
          rw [e]; unfold Rs at hz; omega
      · have hop : (0 < x ∧ u < 0) ∨ (x < 0 ∧ 0 < u) := by omega
        right; right
        have hyz : y ≠ 0 → y.fmod u ≠ 0 := fun h => by
          have e : y.fmod u = y + 2 * u := (rs_uni (q := -2) (by omega) (by unfold Rs at *; omega)).1
          rw [e]; unfold Rs at hy; omega
        have hzz : z ≠ 0 → z.fmod u ≠ 0 := fun h => by
          have e : z.fmod u = z + 2 * u := (rs_uni (q := -2) (by omega) (by unfold Rs at *; omega)).1
          rw [e]; unfold Rs at hz; omega
        refine ⟨un_clq hp ?_, by show u.natAbs < _; omega, ?_⟩
        · rcases hne with hne | hne
          · exact .inr (hyz hne)
          · exact .inl (hzz hne)
        · have hw : x.natAbs ≤ (clq ⟨u, z, y, x⟩).u.natAbs := by
            by_cases hy0 : y = 0
            · have hz0 : z ≠ 0 := by omega
              refine blk (y := z) (z := y) (m := z.fmod u) (n := y.fmod u) hz hy hn hop (by omega) ?_ hm2 hm ?_
              · left; exact ⟨hy0, by rw [hy0]; exact (fmod_zero' hn).1⟩
              · exact hdet
            · refine blk (y := y) (z := z) (m := y.fmod u) (n := z.fmod u) hy hz hn hop (by omega) ?_ hm hm2 ?_
              · by_cases hz0 : z = 0
                · left; exact ⟨hz0, by rw [hz0]; exact (fmod_zero' hn).1⟩
                · right; omega
              · rw [Int.mul_comm y z, Int.mul_comm (y.fmod u)]; exact hdet
          exact Nat.le_trans (show u.natAbs ≤ x.natAbs by omega) hw
  rcases hs with ⟨p, hp, rfl, hn⟩ | ⟨p, hp, h1, h2, h3, rfl⟩
  · by_cases hb : p.x.natAbs < B
    · exact (hL (clq p) ⟨p.x, .inl rfl, hp.ne, hb⟩).mono
    · rcases key p hp (by omega) with ⟨k1, k2⟩ | ⟨k1, k2⟩ | ⟨k1, k2, k3⟩
      · exact (hL (clq p) ⟨_, .inr (.inl rfl), k1, k2⟩).mono
      · exact (hL (clq p) ⟨_, .inr (.inr (.inl rfl)), k1, k2⟩).mono
      · exact bnd_far hL k1 k2 (.inr k3)
  · by_cases hb : p.x.natAbs < B
    · exact (hL ⟨p.x, (clq p).u, 0, (clq p).u⟩ ⟨p.x, .inl rfl, hp.ne, hb⟩).mono
    · rcases key p hp (by omega) with ⟨k1, _⟩ | ⟨k1, _⟩ | ⟨⟨_, _, _, k1⟩, _, _⟩
      · exact absurd h1 k1
      · exact absurd h2 k1
      · rcases k1 with k1 | k1
        · exact absurd h1 k1
        · exact absurd h2 k1
theorem bnd_half {q : Qd} (hq : Low (2 * B) q) : Bnd (N + 4) q := by
  intro q' hs
  rcases hs with ⟨p, hp, rfl, hn⟩ | ⟨p, hp, h1, h2, h3, rfl⟩
  · exact (bnd_un hL (un_clq hp hn) (hp.low hq)).mono
  · have hpx := hp.low hq
    have hx := hp.ne
    obtain ⟨C, hC⟩ : ∃ C, C = (clq p).u := ⟨_, rfl⟩
    obtain ⟨x, hxe⟩ : ∃ x, x = p.x := ⟨_, rfl⟩
    rw [← hC] at h3 ⊢
    rw [← hxe] at h3 hpx hx ⊢
    have hC0 : C ≠ 0 := fun h => h3 (by rw [h]; exact (fmod_zero' hx).1)
    clear hC hxe h1 h2 hp hq
    intro q'' hs
    have key : ∀ r : Qd, PivQ ⟨x, C, 0, C⟩ r → r = ⟨x, C, 0, C⟩ ∨ (r = ⟨C, x, C, 0⟩ ∧ C.natAbs < x.natAbs) := by
      intro r hr
      rcases hr.how with h | ⟨h, h1⟩ | ⟨h, h1⟩ | ⟨h, h1, h2, h3⟩
      · exact .inl h
      · refine .inr ⟨h, ?_⟩
        subst h
        simp only at h1
        omega
      · exfalso
        have := hr.ne
        rw [h] at this
        exact this rfl
      · exfalso
        subst h
        simp only at h2
        omega
    rcases hs with ⟨r, hr, rfl, hn⟩ | ⟨r, hr, k1, k2, k3, rfl⟩
    · refine bnd_un hL (un_clq hr hn) ?_
      rcases key r hr with rfl | ⟨rfl, h⟩
      · exact hpx
      · show C.natAbs < _; omega
    · exfalso
      rcases key r hr with rfl | ⟨rfl, h⟩
      · exact h3 k1
      · refine k3 ?_
        have e1 : (clq ⟨C, x, C, 0⟩).u = -x := by
          show (0 : Int) - C.fdiv C * x - x.fdiv C * C.fmod C = -x
          rw [(fmod_self' hC0).1, (fmod_self' hC0).2]; omega
        have e2 : x.fmod C = 0 := k1
        rw [e1]
        show (-x).fmod C = 0
        have e3 := fmod_eq x C
        rw [e2] at e3
        refine (rs_uni (q := -x.fdiv C) (m := 0) ?_ (by unfold Rs; omega)).1
        rw [Int.mul_neg]; omega
end
theorem bnd_low : ∀ (k : Nat) (q : Qd), Low (2 ^ k) q → Bnd (4 * k) q
  | 0, q, ⟨e, _, h0, h1⟩ => by simp at h1; omega
  | k + 1, q, h => by
    have e : 2 ^ (k + 1) = 2 * 2 ^ k := by rw [Nat.pow_succ]; omega
    rw [e] at h
    exact bnd_half (bnd_low k) h
theorem bnd_all {k : Nat} {q : Qd} (hx : q.x.natAbs < 2 ^ k) (hy : q.y.natAbs < 2 ^ k) (hz : q.z.natAbs < 2 ^ k) (hu : q.u.natAbs < 2 ^ k) : Bnd (4 * k + 1) q := by
  by_cases h : q.x = 0 ∧ q.y = 0 ∧ q.z = 0 ∧ q.u = 0
  · have h1 : Bnd 1 q := by
      have hno : ∀ p, ¬ PivQ q p := fun p hp => by
        have hn := hp.ne
        rcases hp.how with h1 | ⟨h1, _⟩ | ⟨h1, _⟩ | ⟨h1, _⟩
        · rw [h1] at hn; exact hn h.1
        · rw [h1] at hn; exact hn h.2.1
        · rw [h1] at hn; exact hn h.2.2.1
        · rw [h1] at hn; exact hn h.2.2.2
      intro q' hs
      rcases hs with ⟨p, hp, _⟩ | ⟨p, hp, _⟩
      · exact absurd hp (hno p)
      · exact absurd hp (hno p)
    have := h1.le (4 * k)
    rwa [Nat.add_comm] at this
  · refine (bnd_low k q ?_).mono
    by_cases h1 : q.x = 0
    · by_cases h2 : q.y = 0
      · by_cases h3 : q.z = 0
        · exact ⟨q.u, .inr (.inr (.inr rfl)), fun h4 => h ⟨h1, h2, h3, h4⟩, hu⟩
        · exact ⟨q.z, .inr (.inr (.inl rfl)), h3, hz⟩
      · exact ⟨q.y, .inr (.inl rfl), h2, hy⟩
    · exact ⟨q.x, .inl rfl, h1, hx⟩
def IB (X D : Nat) (q : Qd) : Prop := (q.x * q.u - q.y * q.z).natAbs ≤ D ∧ (q.x.natAbs ≤ D + X ∧ q.y.natAbs ≤ D + X ∧ q.z.natAbs ≤ D + X ∧ q.u.natAbs ≤ D + X) ∧ ((q.x = 0 ∧ q.y = 0 ∧ q.z = 0 ∧ q.u = 0) ∨ Low (X + 1) q)
theorem PivQ.det {q p : Qd} (h : PivQ q p) : (p.x * p.u - p.y * p.z).natAbs = (q.x * q.u - q.y * q.z).natAbs := by
  rcases h.how with h1 | ⟨h1, _⟩ | ⟨h1, _⟩ | ⟨h1, _⟩
  · rw [h1]
  · rw [h1]; simp only
    rw [show q.y * q.z - q.x * q.u = -(q.x * q.u - q.y * q.z) by omega, Int.natAbs_neg]
  · rw [h1]; simp only
    rw [show q.z * q.y - q.u * q.x = -(q.x * q.u - q.y * q.z) by rw [Int.mul_comm q.z, Int.mul_comm q.u]; omega, Int.natAbs_neg]
  · rw [h1]; simp only
    rw [Int.mul_comm q.u, Int.mul_comm q.z]
theorem clq_u {p : Qd} {D : Nat} (hne : p.x ≠ 0) (hd : (p.x * p.u - p.y * p.z).natAbs ≤ D) : (clq p).u.natAbs ≤ D + p.x.natAbs := by
  have h := clq_det p
  have h1 := rs_fmod p.y hne
  have h2 := rs_fmod p.z hne
  have a1 : (clq p).y.natAbs ≤ p.x.natAbs := by show (p.y.fmod p.x).natAbs ≤ _; unfold Rs at h1; omega
  have a2 : (clq p).z.natAbs ≤ p.x.natAbs := by show (p.z.fmod p.x).natAbs ≤ _; unfold Rs at h2; omega
  have h3 : ((clq p).y * (clq p).z).natAbs ≤ p.x.natAbs * p.x.natAbs := by rw [Int.natAbs_mul]; exact Nat.mul_le_mul a1 a2
  have h4 : p.x.natAbs * (clq p).u.natAbs ≤ D + p.x.natAbs * p.x.natAbs := by rw [← Int.natAbs_mul, h]; omega
  have hp : 0 < p.x.natAbs := by omega
  have h5 : D ≤ p.x.natAbs * D := Nat.le_mul_of_pos_left _ hp
  refine Nat.le_of_mul_le_mul_left (c := p.x.natAbs) ?_ hp
  rw [Nat.mul_add]; omega
theorem IB.stp {X D : Nat} {q q' : Qd} (h : IB X D q) (hs : Stp q q') : IB X D q' := by
  obtain ⟨hd, _, hl⟩ := h
  have key : ∀ p, PivQ q p → p.x.natAbs ≤ X ∧ (clq p).u.natAbs ≤ D + p.x.natAbs ∧ (p.x * p.u - p.y * p.z).natAbs ≤ D := by
    intro p hp
    have h1 : (p.x * p.u - p.y * p.z).natAbs ≤ D := by rw [hp.det]; exact hd
    refine ⟨?_, clq_u hp.ne h1, h1⟩
    rcases hl with hl | hl
    · exfalso
      have hn := hp.ne
      rcases hp.how with h1 | ⟨h1, _⟩ | ⟨h1, _⟩ | ⟨h1, _⟩
      · rw [h1] at hn; exact hn hl.1
      · rw [h1] at hn; exact hn hl.2.1
      · rw [h1] at hn; exact hn hl.2.2.1
      · rw [h1] at hn; exact hn hl.2.2.2
    · have := hp.low hl; omega
  rcases hs with ⟨p, hp, rfl, hn⟩ | ⟨p, hp, h1, h2, h3, rfl⟩
  · obtain ⟨k1, k2, k3⟩ := key p hp
    have r1 := rs_fmod p.y hp.ne
    have r2 := rs_fmod p.z hp.ne
    have a1 : (clq p).y.natAbs ≤ p.x.natAbs := by show (p.y.fmod p.x).natAbs ≤ _; unfold Rs at r1; omega
    have a2 : (clq p).z.natAbs ≤ p.x.natAbs := by show (p.z.fmod p.x).natAbs ≤ _; unfold Rs at r2; omega
    have a0 : (clq p).x = p.x := rfl
    refine ⟨?_, ⟨by rw [a0]; omega, by omega, by omega, by omega⟩, .inr ⟨p.x, .inl rfl, hp.ne, by omega⟩⟩
    have := clq_det p
    rw [a0]
    omega
  · obtain ⟨k1, k2, k3⟩ := key p hp
    have h := clq_det p
    rw [h1, Int.zero_mul, Int.add_zero] at h
    refine ⟨?_, ⟨by simp only; omega, by simp only; omega, by simp only; omega, by simp only; omega⟩, .inr ⟨p.x, .inl rfl, hp.ne, by omega⟩⟩
    simp only
    rw [h]; omega
end Go.Proofs.YtokjolmpdfmnbaaGreatDoor
