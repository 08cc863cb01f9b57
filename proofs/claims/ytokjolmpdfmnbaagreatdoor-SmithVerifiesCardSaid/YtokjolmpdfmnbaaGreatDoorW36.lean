/- Part 36 of the proof of the claim: contracts of the functions that it reaches, and plain laws; no condition. -/
import Derived.Test.YtokjolmpdfmnbaaGreatDoorW35
import Derived.Test.YtokjolmpdfmnbaaGreatDoorW18
namespace Go.Proofs.YtokjolmpdfmnbaaGreatDoor
open Go.RowKit Go.Sort
theorem ncols_mod (F : Mx) : ncols (modM F) = ncols F := by
  unfold ncols modM
  rcases F with _ | ⟨r, F⟩
  · rfl
  · simp
theorem sm_mod {F : Mx} (h : SmM F) : SmM (modM F) := ⟨by rw [modM_length]; exact h.n3, by rw [ncols_mod]; exact h.c3, by rw [ncols_mod]; exact modM_rect h.rect, fun r hr z hz => by have := modM_ent F r hr z hz; omega⟩
theorem ent_le {B : Nat} {F : Mx} (h : ∀ r ∈ F, ∀ z ∈ r, z.natAbs ≤ B) (i k : Nat) : (eM F i k).natAbs ≤ B := by
  unfold eM
  by_cases hi : i < F.length
  · rw [getD_get hi]
    by_cases hk : k < F[i].length
    · rw [getD_get hk]; exact h _ (List.getElem_mem hi) _ (List.getElem_mem hk)
    · rw [List.getD_eq_getElem?_getD, List.getElem?_eq_none (by omega)]; simp
  · rw [show F.getD i [] = [] by rw [List.getD_eq_getElem?_getD, List.getElem?_eq_none (by omega)]; rfl]; simp
theorem b4_ne {Z : World} {b gr cap B : Nat} {xs ys : List Value} {T : TypeId} (h1 : Sl Z (some ⟨b, 0, none⟩) b 0 xs) (h2 : OwnV T B Z gr cap ys) (h : gr = b) {u v : Value} (hu : xs[0]? = some u) (hv : ys[0]? = some v) (hne : u ≠ v) : False := by
  subst h
  have a1 := h1.cell 0 u hu
  obtain ⟨hl, hv⟩ := List.getElem?_eq_some_iff.1 hv
  have a2 := h2.cell hl
  rw [Nat.zero_add] at a1
  rw [a1, hv] at a2
  injection a2 with a2
  exact hne a2
theorem mu_one {M L : Mx} {p : Nat} (h : SmM M) (hL : squareB L M.length = true) (hp : ∀ r ∈ L, ∀ z ∈ r, z.natAbs ≤ p) (hp2 : p ≤ 1000000) : MuOk L M (ncols M) := by
  obtain ⟨q1, q2⟩ := squareB_iff.1 hL
  exact ⟨h.n3, h.c3, by have := h.n3; omega, q2, h.rect, p, 9, by omega, ent_le hp, ent_le fun r hr z hz => by have := h.ent r hr z hz; omega⟩
theorem mu_two {M L R : Mx} {p : Nat} (h : SmM M) (hL : squareB L M.length = true) (hR : squareB R (ncols M) = true) (hp : ∀ r ∈ L, ∀ z ∈ r, z.natAbs ≤ p) (hq : ∀ r ∈ R, ∀ z ∈ r, z.natAbs ≤ p) (hp2 : p ≤ 1000000) : MuOk (mulM L M (ncols M)) R (ncols M) := by
  have h1 := mu_one h hL hp hp2
  obtain ⟨q1, q2⟩ := squareB_iff.1 hL
  obtain ⟨r1, r2⟩ := squareB_iff.1 hR
  refine ⟨by rw [r1]; exact h.c3, h.c3, by rw [mulM_length]; exact h1.la, by rw [r1]; exact mulM_rect _ _ _, r2, 27 * p, p, ?_, ent_le fun r hr z hz => ?_, ent_le hq⟩
  · have : 27 * p * p ≤ 27 * 1000000 * 1000000 := Nat.mul_le_mul (Nat.mul_le_mul_left _ hp2) hp2
    omega
  · obtain ⟨i, hi, rfl⟩ := List.getElem_of_mem hr
    obtain ⟨k, hk, rfl⟩ := List.getElem_of_mem hz
    have hi' : i < L.length := by simpa using hi
    simp only [mulM_get hi'] at hk ⊢
    have hk' : k < ncols M := by simpa [cbTo_length] using hk
    rw [cbTo_get M _ hk', if_neg (by omega), Int.add_zero]
    have e1 : ∀ t, (vr L[i] t * eM M t k).natAbs ≤ 9 * p := fun t => by
      have e2 : vr L[i] t = eM L i t := by unfold eM vr; rw [getD_get hi']
      rw [e2, Int.natAbs_mul, Nat.mul_comm 9 p]
      exact Nat.mul_le_mul (ent_le hp i t) (ent_le (fun r hr z hz => by have := h.ent r hr z hz; omega) t k)
    have := sumZ_abs e1 M.length
    have h3 := h.n3
    have : M.length * (9 * p) ≤ 3 * (9 * p) := Nat.mul_le_mul_right _ h3
    omega
set_option maxRecDepth 100000 in
set_option maxHeartbeats 8000000 in
theorem vs_walk {w : World} {R0 C0 R1 C1 R2 C2 : Nat} {e0_0 e0_1 e0_2 e0_3 e0_4 e0_5 e0_6 e0_7 e0_8 e1_0 e1_1 e1_2 e1_3 e1_4 e1_5 e1_6 e1_7 e1_8 e2_0 e2_1 e2_2 e2_3 e2_4 e2_5 e2_6 e2_7 e2_8 : Int} (hG0 : ShapeV #[.int .u8 R0, .int .u8 C0, .int .i8 e0_0, .int .i8 e0_1, .int .i8 e0_2, .int .i8 e0_3, .int .i8 e0_4, .int .i8 e0_5, .int .i8 e0_6, .int .i8 e0_7, .int .i8 e0_8] R0 C0 [e0_0, e0_1, e0_2, e0_3, e0_4, e0_5, e0_6, e0_7, e0_8]) (hG1 : ShapeV #[.int .u8 R1, .int .u8 C1, .int .i8 e1_0, .int .i8 e1_1, .int .i8 e1_2, .int .i8 e1_3, .int .i8 e1_4, .int .i8 e1_5, .int .i8 e1_6, .int .i8 e1_7, .int .i8 e1_8] R1 C1 [e1_0, e1_1, e1_2, e1_3, e1_4, e1_5, e1_6, e1_7, e1_8]) (hG2 : ShapeV #[.int .u8 R2, .int .u8 C2, .int .i8 e2_0, .int .i8 e2_1, .int .i8 e2_2, .int .i8 e2_3, .int .i8 e2_4, .int .i8 e2_5, .int .i8 e2_6, .int .i8 e2_7, .int .i8 e2_8] R2 C2 [e2_0, e2_1, e2_2, e2_3, e2_4, e2_5, e2_6, e2_7, e2_8]) (hL : Laid w) :
    Calls Tryz.prog 4 #[.agg #[.int .u8 R0, .int .u8 C0, .int .i8 e0_0, .int .i8 e0_1, .int .i8 e0_2, .int .i8 e0_3, .int .i8 e0_4, .int .i8 e0_5, .int .i8 e0_6, .int .i8 e0_7, .int .i8 e0_8], .agg #[.int .u8 R1, .int .u8 C1, .int .i8 e1_0, .int .i8 e1_1, .int .i8 e1_2, .int .i8 e1_3, .int .i8 e1_4, .int .i8 e1_5, .int .i8 e1_6, .int .i8 e1_7, .int .i8 e1_8], .agg #[.int .u8 R2, .int .u8 C2, .int .i8 e2_0, .int .i8 e2_1, .int .i8 e2_2, .int .i8 e2_3, .int .i8 e2_4, .int .i8 e2_5, .int .i8 e2_6, .int .i8 e2_7, .int .i8 e2_8]] w fun e w' => e = .returned (.bool true) ∧ Ext w w' := by
  have HL := Lib.hid hL
  obtain ⟨M, hMd⟩ : ∃ M, M = shM [e0_0, e0_1, e0_2, e0_3, e0_4, e0_5, e0_6, e0_7, e0_8] (C0 % 4) (R0 % 4) := ⟨_, rfl⟩
  have hmk0 := Lib.hid (fun W => Make08_any (w := W) hG0)
  rw [← hMd] at hmk0
  have hS0 : SmM M := by rw [hMd]; exact sh_small _ _ _
  obtain ⟨A, hAd⟩ : ∃ A, A = shM [e1_0, e1_1, e1_2, e1_3, e1_4, e1_5, e1_6, e1_7, e1_8] (C1 % 4) (R1 % 4) := ⟨_, rfl⟩
  have hmk1 := Lib.hid (fun W => Make08X_any (w := W) hG1)
  rw [← hAd] at hmk1
  have hS1 : SmM A := by rw [hAd]; exact sh_small _ _ _
  obtain ⟨B, hBd⟩ : ∃ B, B = shM [e2_0, e2_1, e2_2, e2_3, e2_4, e2_5, e2_6, e2_7, e2_8] (C2 % 4) (R2 % 4) := ⟨_, rfl⟩
  have hmk2 := Lib.hid (fun W => Make08X_any (w := W) hG2)
  rw [← hBd] at hmk2
  have hS2 : SmM B := by rw [hBd]; exact sh_small _ _ _
  obtain ⟨n1, hn1⟩ : ∃ n, n = C1 % 4 := ⟨_, rfl⟩
  obtain ⟨n2, hn2⟩ : ∃ n, n = C2 % 4 := ⟨_, rfl⟩
  rw [← hn1] at hmk1
  rw [← hn2] at hmk2
  have hA3 : A.length ≤ 3 := hS1.n3
  have hB3 : B.length ≤ 3 := hS2.n3
  have hn13 : n1 ≤ 3 := by omega
  have hn23 : n2 ≤ 3 := by omega
  have hRA : Rect n1 A := by rw [hAd, hn1]; exact shM_rect _ _ _
  have hRB : Rect n2 B := by rw [hBd, hn2]; exact shM_rect _ _ _
  have HRA := Lib.hid hRA
  have HRB := Lib.hid hRB
  obtain ⟨N, hN⟩ : ∃ N, N = M.length := ⟨_, rfl⟩
  obtain ⟨c, hc⟩ : ∃ c, c = ncols M := ⟨_, rfl⟩
  have hN3 : N ≤ 3 := by rw [hN]; exact hS0.n3
  have hc3 : c ≤ 3 := by rw [hc]; exact hS0.c3
  obtain ⟨F, hF, _, hFl, hFr, _, _⟩ := dia_u hS0
  have hentA := modM_ent A
  have hentB := modM_ent B
  have hco := Lib.hid (fun W vm (a : MatR W vm M) => Columns08_any a)
  have hve := Lib.hid (fun W v0 v1 v2 (a : MatR W v0 M) (b : MatR W v1 (modM A)) (d : MatR W v2 (modM B)) (hL : Laid W) => Verify_any a b d hS0 (sm_check (sm_mod hS1)) (sm_check (sm_mod hS2)) hF hL)
  have hfo := Lib.hid (fun W v0 (a : MatR W v0 M) (hL : Laid W) => form_u hS0 a hL)
  have hun := Lib.hid (fun (X : Mx) (n : Nat) (hX : SmM X) (hn : n ≤ 3) W v (a : MatR W v X) => unimod08_any (n := n) (B := 9) a hX.rect hn (by omega) (fun r hr z hz => by have := hX.ent r hr z hz; omega) (by rcases (show n = 0 ∨ n = 1 ∨ n = 2 ∨ n = 3 by omega) with rfl | rfl | rfl | rfl <;> decide) (by have := hX.n3; omega) (by have := hX.c3; omega))
  have huA := Lib.hid (hun.out (modM A) N (sm_mod hS1) hN3)
  have huB := Lib.hid (hun.out (modM B) c (sm_mod hS2) hc3)
  have hm1 := Lib.hid (fun (hq : squareB (modM A) N = true) W v0 v1 (a : MatR W v0 (modM A)) (b : MatR W v1 M) => Mul08_any a b (mu_one hS0 (by rw [← hN]; exact hq) (p := 4) (fun r hr z hz => by have := hentA r hr z hz; omega) (by omega)) rfl)
  have hm2 := Lib.hid (fun (hq : squareB (modM A) N = true) (hr : squareB (modM B) c = true) (h0 : 0 < c) W v0 v1 (a : MatR W v0 (mulM (modM A) M c)) (b : MatR W v1 (modM B)) => Mul08_any (c := c) a b (by rw [hc]; exact mu_two hS0 (by rw [← hN]; exact hq) (by rw [← hc]; exact hr) (p := 4) (fun r hr z hz => by have := hentA r hr z hz; omega) (fun r hr z hz => by have := hentB r hr z hz; omega) (by omega)) (by
    obtain ⟨q1, q2⟩ := squareB_iff.1 hr
    exact ncols_of (by omega) q2))
  have heq := Lib.hid (fun W v0 v1 (a : MatR W v0 (mulM (mulM (modM A) M c) (modM B) c)) (b : MatR W v1 F) => Equal08_any a b (by simp; omega) (fun r hr => by rw [mulM_rect _ _ _ r hr]; omega))
  rw [← hc] at hco hm1
  have hsqA : squareB (modM A) N = true ↔ A.length = N ∧ (0 < N → n1 = N) := by
    rw [squareB_iff, modM_length]
    constructor
    · rintro ⟨q1, q2⟩
      refine ⟨q1, fun h => ?_⟩
      have h1 := q2 ((modM A)[0]'(by simp; omega)) (List.getElem_mem _)
      have h2 := modM_rect hRA ((modM A)[0]'(by simp; omega)) (List.getElem_mem _)
      omega
    · rintro ⟨q1, q2⟩
      refine ⟨q1, fun r hr => ?_⟩
      have := List.length_pos_of_mem hr
      rw [modM_rect hRA r hr]
      exact q2 (by simpa [q1] using this)
  have hsqB : squareB (modM B) c = true ↔ B.length = c ∧ (0 < c → n2 = c) := by
    rw [squareB_iff, modM_length]
    constructor
    · rintro ⟨q1, q2⟩
      refine ⟨q1, fun h => ?_⟩
      have h1 := q2 ((modM B)[0]'(by simp; omega)) (List.getElem_mem _)
      have h2 := modM_rect hRB ((modM B)[0]'(by simp; omega)) (List.getElem_mem _)
      omega
    · rintro ⟨q1, q2⟩
      refine ⟨q1, fun r hr => ?_⟩
      have := List.length_pos_of_mem hr
      rw [modM_rect hRB r hr]
      exact q2 (by simpa [q1] using this)
  have HsA := Lib.hid hsqA
  have HsB := Lib.hid hsqB
  have Hnil := Lib.hid (show N = 0 → c = 0 from fun h => by rw [hc, List.eq_nil_of_length_eq_zero (show M.length = 0 by omega)]; rfl)
  have HF := Lib.hid hF
  have HFu := Lib.hid (fun F2 (h2 : FormU M F2) => h2.uni hF hS0.n3)
  have HN := Lib.hid hN
  have Hc := Lib.hid hc
  have Hver := Lib.hid (show verQ M F (modM A) (modM B) = if squareB (modM A) N = true ∧ squareB (modM B) c = true then if uniB (modM A) N = true ∧ uniB (modM B) c = true ∧ (c = 0 ∨ mulM (mulM (modM A) M c) (modM B) c = F) then 0 else 23 else 5 by unfold verQ; rw [hN, hc])
  have Hent := Lib.hid (show ∀ z ∈ ([] : List Int), z = z from fun z _ => rfl)
  obtain ⟨na, hna⟩ : ∃ n, n = A.length := ⟨_, rfl⟩
  obtain ⟨nb, hnb⟩ : ∃ n, n = B.length := ⟨_, rfl⟩
  have Hna := Lib.hid hna
  have Hnb := Lib.hid hnb
  rw [← hna] at hA3
  rw [← hnb] at hB3
  clear hG0 hG1 hG2 hL hMd hAd hBd hS0 hS1 hS2 hn1 hn2 hRA hRB hN hc hF hFl hFr hentA hentB hun hsqA hsqB hna hnb Hent
  go_enter Tryz.func4, Tryz.ntmps4
  have hX : Ext w (((w.alloc (.cells #[.int .u8 R0, .int .u8 C0, .int .i8 e0_0, .int .i8 e0_1, .int .i8 e0_2, .int .i8 e0_3, .int .i8 e0_4, .int .i8 e0_5, .int .i8 e0_6, .int .i8 e0_7, .int .i8 e0_8] 25)).alloc (.cells #[.int .u8 R1, .int .u8 C1, .int .i8 e1_0, .int .i8 e1_1, .int .i8 e1_2, .int .i8 e1_3, .int .i8 e1_4, .int .i8 e1_5, .int .i8 e1_6, .int .i8 e1_7, .int .i8 e1_8] 25)).alloc (.cells #[.int .u8 R2, .int .u8 C2, .int .i8 e2_0, .int .i8 e2_1, .int .i8 e2_2, .int .i8 e2_3, .int .i8 e2_4, .int .i8 e2_5, .int .i8 e2_6, .int .i8 e2_7, .int .i8 e2_8] 25)) := (((Ext.refl w).alloc _).alloc _).alloc _
  go_wp2_with fail
  refine (known08_any (HL.out.ext hX)).mono ?_
  rintro e w1 ⟨rfl, hE1⟩
  have s0_0 : w1.cell? ⟨w.heap.size, 0, none⟩ = some (.int .u8 R0) := hE1.cell (by go_simp)
  have s0_1 : w1.cell? ⟨w.heap.size, 1, none⟩ = some (.int .u8 C0) := hE1.cell (by go_simp)
  have s0_2 : w1.cell? ⟨w.heap.size, 2, none⟩ = some (.int .i8 e0_0) := hE1.cell (by go_simp)
  have s0_3 : w1.cell? ⟨w.heap.size, 3, none⟩ = some (.int .i8 e0_1) := hE1.cell (by go_simp)
  have s0_4 : w1.cell? ⟨w.heap.size, 4, none⟩ = some (.int .i8 e0_2) := hE1.cell (by go_simp)
  have s0_5 : w1.cell? ⟨w.heap.size, 5, none⟩ = some (.int .i8 e0_3) := hE1.cell (by go_simp)
  have s0_6 : w1.cell? ⟨w.heap.size, 6, none⟩ = some (.int .i8 e0_4) := hE1.cell (by go_simp)
  have s0_7 : w1.cell? ⟨w.heap.size, 7, none⟩ = some (.int .i8 e0_5) := hE1.cell (by go_simp)
  have s0_8 : w1.cell? ⟨w.heap.size, 8, none⟩ = some (.int .i8 e0_6) := hE1.cell (by go_simp)
  have s0_9 : w1.cell? ⟨w.heap.size, 9, none⟩ = some (.int .i8 e0_7) := hE1.cell (by go_simp)
  have s0_10 : w1.cell? ⟨w.heap.size, 10, none⟩ = some (.int .i8 e0_8) := hE1.cell (by go_simp)
  have s1_0 : w1.cell? ⟨w.heap.size + 1, 0, none⟩ = some (.int .u8 R1) := hE1.cell (by go_simp)
  have s1_1 : w1.cell? ⟨w.heap.size + 1, 1, none⟩ = some (.int .u8 C1) := hE1.cell (by go_simp)
  have s1_2 : w1.cell? ⟨w.heap.size + 1, 2, none⟩ = some (.int .i8 e1_0) := hE1.cell (by go_simp)
  have s1_3 : w1.cell? ⟨w.heap.size + 1, 3, none⟩ = some (.int .i8 e1_1) := hE1.cell (by go_simp)
  have s1_4 : w1.cell? ⟨w.heap.size + 1, 4, none⟩ = some (.int .i8 e1_2) := hE1.cell (by go_simp)
  have s1_5 : w1.cell? ⟨w.heap.size + 1, 5, none⟩ = some (.int .i8 e1_3) := hE1.cell (by go_simp)
  have s1_6 : w1.cell? ⟨w.heap.size + 1, 6, none⟩ = some (.int .i8 e1_4) := hE1.cell (by go_simp)
  have s1_7 : w1.cell? ⟨w.heap.size + 1, 7, none⟩ = some (.int .i8 e1_5) := hE1.cell (by go_simp)
  have s1_8 : w1.cell? ⟨w.heap.size + 1, 8, none⟩ = some (.int .i8 e1_6) := hE1.cell (by go_simp)
  have s1_9 : w1.cell? ⟨w.heap.size + 1, 9, none⟩ = some (.int .i8 e1_7) := hE1.cell (by go_simp)
  have s1_10 : w1.cell? ⟨w.heap.size + 1, 10, none⟩ = some (.int .i8 e1_8) := hE1.cell (by go_simp)
  have s2_0 : w1.cell? ⟨w.heap.size + 1 + 1, 0, none⟩ = some (.int .u8 R2) := hE1.cell (by go_simp)
  have s2_1 : w1.cell? ⟨w.heap.size + 1 + 1, 1, none⟩ = some (.int .u8 C2) := hE1.cell (by go_simp)
  have s2_2 : w1.cell? ⟨w.heap.size + 1 + 1, 2, none⟩ = some (.int .i8 e2_0) := hE1.cell (by go_simp)
  have s2_3 : w1.cell? ⟨w.heap.size + 1 + 1, 3, none⟩ = some (.int .i8 e2_1) := hE1.cell (by go_simp)
  have s2_4 : w1.cell? ⟨w.heap.size + 1 + 1, 4, none⟩ = some (.int .i8 e2_2) := hE1.cell (by go_simp)
  have s2_5 : w1.cell? ⟨w.heap.size + 1 + 1, 5, none⟩ = some (.int .i8 e2_3) := hE1.cell (by go_simp)
  have s2_6 : w1.cell? ⟨w.heap.size + 1 + 1, 6, none⟩ = some (.int .i8 e2_4) := hE1.cell (by go_simp)
  have s2_7 : w1.cell? ⟨w.heap.size + 1 + 1, 7, none⟩ = some (.int .i8 e2_5) := hE1.cell (by go_simp)
  have s2_8 : w1.cell? ⟨w.heap.size + 1 + 1, 8, none⟩ = some (.int .i8 e2_6) := hE1.cell (by go_simp)
  have s2_9 : w1.cell? ⟨w.heap.size + 1 + 1, 9, none⟩ = some (.int .i8 e2_7) := hE1.cell (by go_simp)
  have s2_10 : w1.cell? ⟨w.heap.size + 1 + 1, 10, none⟩ = some (.int .i8 e2_8) := hE1.cell (by go_simp)
  have hX1 := hX.trans hE1
  have hw1 := hX1.size
  clear hX hE1
  go_wp2_with fail
  have d7 : Ext w1 w1.drew := (Ext.refl w1).drew
  refine wp_region_held_tail (S := fun W => Ext w1 W) 6 (by kernel_rfl) (by simp) ?_
  intro inv
  refine wpAnyLH_take (i := 0) (v := .agg #[.int .u8 R0, .int .u8 C0, .int .i8 e0_0, .int .i8 e0_1, .int .i8 e0_2, .int .i8 e0_3, .int .i8 e0_4, .int .i8 e0_5, .int .i8 e0_6, .int .i8 e0_7, .int .i8 e0_8]) rfl (by kernel_rfl) (fun _ _ _ h => h) (.inl ⟨by rfl, fun W hW => by have q0 := hW.cell s0_0; have q1 := hW.cell s0_1; have q2 := hW.cell s0_2; have q3 := hW.cell s0_3; have q4 := hW.cell s0_4; have q5 := hW.cell s0_5; have q6 := hW.cell s0_6; have q7 := hW.cell s0_7; have q8 := hW.cell s0_8; have q9 := hW.cell s0_9; have q10 := hW.cell s0_10; go_simp⟩) d7 inv ?_
  intro inv
  go_simp
  refine wpAnyLH_take (i := 2) (v := .agg #[.int .u8 R1, .int .u8 C1, .int .i8 e1_0, .int .i8 e1_1, .int .i8 e1_2, .int .i8 e1_3, .int .i8 e1_4, .int .i8 e1_5, .int .i8 e1_6, .int .i8 e1_7, .int .i8 e1_8]) rfl (by kernel_rfl) (fun _ _ _ h => h) (.inl ⟨by rfl, fun W hW => by have q0 := hW.cell s1_0; have q1 := hW.cell s1_1; have q2 := hW.cell s1_2; have q3 := hW.cell s1_3; have q4 := hW.cell s1_4; have q5 := hW.cell s1_5; have q6 := hW.cell s1_6; have q7 := hW.cell s1_7; have q8 := hW.cell s1_8; have q9 := hW.cell s1_9; have q10 := hW.cell s1_10; go_simp⟩) d7 inv ?_
  intro inv
  go_simp
  refine wpAnyLH_take (i := 4) (v := .agg #[.int .u8 R2, .int .u8 C2, .int .i8 e2_0, .int .i8 e2_1, .int .i8 e2_2, .int .i8 e2_3, .int .i8 e2_4, .int .i8 e2_5, .int .i8 e2_6, .int .i8 e2_7, .int .i8 e2_8]) rfl (by kernel_rfl) (fun _ _ _ h => h) (.inl ⟨by rfl, fun W hW => by have q0 := hW.cell s2_0; have q1 := hW.cell s2_1; have q2 := hW.cell s2_2; have q3 := hW.cell s2_3; have q4 := hW.cell s2_4; have q5 := hW.cell s2_5; have q6 := hW.cell s2_6; have q7 := hW.cell s2_7; have q8 := hW.cell s2_8; have q9 := hW.cell s2_9; have q10 := hW.cell s2_10; go_simp⟩) d7 inv ?_
  intro inv
  go_simp
  refine wpAnyLH_one (i := 1) rfl (by kernel_rfl) (fun K1 hK1 => ?_)
  go_simp
  refine (hmk0.out _).mono ?_
  rintro e w2 ⟨vm, rfl, hvm, hE2⟩
  have d8 := d7.trans hE2
  refine hK1 _ _ d8 ?_
  clear hK1
  refine wpAnyLH_one (i := 3) rfl (by kernel_rfl) (fun K2 hK2 => ?_)
  go_simp
  refine (hmk1.out _).mono ?_
  rintro e w3 ⟨va, rfl, ⟨ada, hva⟩, hE3⟩
  have d9 := d8.trans hE3
  refine hK2 _ _ d9 ?_
  clear hK2
  refine wpAnyLH_one (i := 5) rfl (by kernel_rfl) (fun K3 hK3 => ?_)
  go_simp
  refine (hmk2.out _).mono ?_
  rintro e w4 ⟨vb, rfl, ⟨adb, hvb⟩, hE4⟩
  have d10 := d9.trans hE4
  refine hK3 _ _ d10 ?_
  clear hK3
  refine wpAnyLH_end (by kernel_rfl) ?_
  obtain ⟨sa, ca, rfl, hca, hga⟩ := hva.shp
  obtain ⟨sb, cb, rfl, hcb, hgb⟩ := hvb.shp
  obtain ⟨sm, gm, om, cm, vsm, rfl, hcm, _, _, _⟩ := id hvm.mat
  have hMr := hvm.mat
  have hasz := hva.size
  have HXa := Lib.hid (hva.ext hE4)
  have HXb := Lib.hid hvb
  have HMr := Lib.hid hMr
  rw [← Hna.out] at hca hga HXa hasz ⊢
  rw [← Hnb.out] at hcb hgb HXb ⊢
  rw [← HN.out] at hcm HMr ⊢
  have hw2 := (hX1.trans d8).size
  have hw3 := hE3.size
  have hw4 := hE4.size
  have hE42 := hE3.trans hE4
  have hXw2 := hX1.trans d8
  obtain ⟨B1, hB1⟩ : ∃ B1, B1 = w2.heap.size := ⟨_, rfl⟩
  obtain ⟨B2, hB2⟩ : ∃ B2, B2 = w3.heap.size := ⟨_, rfl⟩
  rw [← hB1] at HXa hw2 hw3
  rw [← hB2] at HXb hasz hw3 hw4
  have Hasz := Lib.hid hasz
  clear s0_0 s0_1 s0_2 s0_3 s0_4 s0_5 s0_6 s0_7 s0_8 s0_9 s0_10 s1_0 s1_1 s1_2 s1_3 s1_4 s1_5 s1_6 s1_7 s1_8 s1_9 s1_10 s2_0 s2_1 s2_2 s2_3 s2_4 s2_5 s2_6 s2_7 s2_8 s2_9 s2_10 d7 d8 d9 d10 hvm hva hvb hMr hasz hmk0 hmk1 hmk2 hE2 hE3 hE4
  obtain ⟨b4, hb4⟩ : ∃ b, b = w4.heap.size := ⟨_, rfl⟩
  have hSl : Sl (w4.alloc (.cells #[.slice sa na ca, .slice sb nb cb] 29)) (some ⟨b4, 0, none⟩) b4 0 [.slice sa na ca, .slice sb nb cb] := ⟨fun _ => rfl, fun j u hj => by
    rw [hb4]
    rcases (show j = 0 ∨ j = 1 by have := (List.getElem?_eq_some_iff.1 hj).1; simp at this; omega) with rfl | rfl <;> simp at hj <;> subst hj <;> go_simp⟩
  have d11 : Ext w4 (w4.alloc (.cells #[.slice sa na ca, .slice sb nb cb] 29)) := (Ext.refl w4).alloc _
  go_wp2_with fail
  rw [← hb4]
  have hB12 : w2.heap.size ≤ B1 ∧ B1 ≤ B2 := by omega
  have HSl := Lib.hid hSl
  have HXa0 := Lib.hid (HXa.out.ext d11)
  have HXb0 := Lib.hid (HXb.out.ext d11)
  have hE20 := hE42.trans d11
  clear hSl d11 HXa HXb hE42 hb4 hB1 hB2 hw2 hw3 hw4
  generalize w4.alloc (.cells #[.slice sa na ca, .slice sb nb cb] 29) = w5 at *
  go_loopw [31] (fun jv wr => ∃ j : Nat, j ≤ 2 ∧ jv = .int .i64 j ∧ Hid (MatX B1 wr (.slice sa na ca) n1 (if 0 < j then modM A else A) ada) ∧ Hid (MatX B2 wr (.slice sb nb cb) n2 (if 1 < j then modM B else B) adb) ∧ Hid (Sl wr (some ⟨b4, 0, none⟩) b4 0 [.slice sa na ca, .slice sb nb cb]) ∧ Ext w2 wr) (fun jv _ => 2 - (intOf jv).toNat)
  case atStart => exact ⟨0, by omega, by go_num, by rw [if_neg (by omega)]; exact HXa0, by rw [if_neg (by omega)]; exact HXb0, HSl, hE20⟩
  case round =>
    clear HXa0 HXb0 HSl hE20
    obtain ⟨j, hj, rfl, HXa, HXb, HSl, hE⟩ := hrel
    generalize wr = X at *
    rcases (show j = 0 ∨ j = 1 ∨ j = 2 by omega) with rfl | rfl | rfl
    · rw [show ((0 : Nat) : Int) = 0 from rfl]
      have c0 := HSl.out.cell 0 (.slice sa na ca) rfl
      have HXo := Lib.hid (show MatX B1 X (.slice sa na ca) n1 (stM A 0 0) ada by rw [stM_zero]; exact HXa.out)
      have hOth0 : Hid (MatX B2 X (.slice sb nb cb) n2 B adb) := HXb
      simp only [Nat.zero_add] at c0
      go_wp2_with fail
      go_loopw [12] (fun iv wr => ∃ i : Nat, i ≤ na ∧ iv = .int .i64 i ∧ Hid (MatX B1 wr (.slice sa na ca) n1 (stM A i 0) ada) ∧ Hid (MatX B2 wr (.slice sb nb cb) n2 B adb) ∧ Hid (Sl wr (some ⟨b4, 0, none⟩) b4 0 [.slice sa na ca, .slice sb nb cb]) ∧ Ext w2 wr) (fun iv _ => na - (intOf iv).toNat)
      case atStart => exact ⟨0, by omega, by go_num, HXo, hOth0, HSl, hE⟩
      case round =>
        clear HXo hOth0 HSl hE HXa HXb c0
        obtain ⟨i, hi, rfl, HXo, hOth, HSl, hE⟩ := hrel
        generalize wr = Y at *
        by_cases hlt : i < na
        · have hii : (i : Int) < (na : Int) := by omega
          have hiF : i < A.length := by rw [← Hna.out]; exact hlt
          obtain ⟨g, rfl⟩ := hga (by omega)
          have hrl : A[i].length = n1 := HRA.out _ (List.getElem_mem hiF)
          go_wp2_with fail
          go_loopw [13] (fun kv wr => ∃ k : Nat, k ≤ n1 ∧ kv = .int .i64 k ∧ Hid (MatX B1 wr (.slice (some ⟨g, 0, none⟩) na ca) n1 (stM A i k) ada) ∧ Hid (MatX B2 wr (.slice sb nb cb) n2 B adb) ∧ Hid (Sl wr (some ⟨b4, 0, none⟩) b4 0 [.slice (some ⟨g, 0, none⟩) na ca, .slice sb nb cb]) ∧ Ext w2 wr) (fun kv _ => n1 - (intOf kv).toNat)
          case atStart => exact ⟨0, by omega, by go_num, HXo, hOth, HSl, hE⟩
          case round =>
            clear HXo hOth HSl hE
            obtain ⟨k, hk, rfl, HXo, hOth, HSl, hE⟩ := hrel
            generalize wr = Z at *
            have hia : i < ada.length := by rw [HXo.out.len, stM_length]; exact hiF
            have hd := HXo.out.hd (show na = (stM A i k).length by rw [stM_length]; exact Hna.out) hia
            obtain ⟨gr, hgr⟩ : ∃ gr, gr = (ada[i]'hia).1 := ⟨_, rfl⟩
            obtain ⟨cr, hcr⟩ : ∃ cr, cr = (ada[i]'hia).2 := ⟨_, rfl⟩
            rw [← hgr, ← hcr] at hd
            have Hgr := Lib.hid hgr
            have Hcr := Lib.hid hcr
            clear hgr hcr
            have hrowl : ((stM A i k)[i]'(by rw [stM_length]; exact hiF)) = mT A[i] k := by rw [stM_get hiF, if_neg (by omega), if_pos rfl]
            by_cases hlt2 : k < n1
            · have hki : (k : Int) < (n1 : Int) := by omega
              have hO := HXo.out.row i (by rw [stM_length]; exact hiF) hia
              rw [hrowl, ← Hgr.out, ← Hcr.out] at hO
              obtain ⟨z, hz⟩ : ∃ z, z = A[i][k]'(by rw [hrl]; exact hlt2) := ⟨_, rfl⟩
              have c1 := hO.cell (j := k) (by rw [is_length, mT_length, hrl]; exact hlt2)
              have h1 : (is (mT A[i] k))[k]'(by rw [is_length, mT_length, hrl]; exact hlt2) = .int .i64 z := by
                have := mT_get (r := A[i]) (k := k) (s := k) (by rw [hrl]; exact hlt2)
                rw [if_neg (by omega), ← hz] at this
                simp [is, this]
              rw [h1] at c1
              obtain ⟨t, ht⟩ : ∃ t, t = z.tmod 5 := ⟨_, rfl⟩
              have w1' : IntKind.i64.wrap t = t := IntWalk.i64_in _ (by
                have a1 := Int.tmod_lt_of_pos z (b := 5) (by omega)
                have a2 := Int.lt_tmod_of_pos z (b := 5) (by omega)
                omega)
              have ht' : z.tmod 5 = t := ht.symm
              have f5 := hO.frozen k
              obtain ⟨hO6, hG6⟩ := hO.set k (.int .i64 t)
              have hst : (is (mT A[i] k)).set k (.int .i64 t) = is (mT A[i] (k + 1)) := by
                rw [← is_set, ← mT_step (by rw [hrl]; exact hlt2), ht, hz]
              rw [hst] at hO6
              have HXn := Lib.hid (show MatX B1 (Z.setCell ⟨gr, k, none⟩ (.int .i64 t)) (.slice (some ⟨g, 0, none⟩) na ca) n1 (stM A i (k + 1)) ada by
                have h9 := HXo.out.setRow (r := mT A[i] (k + 1)) (show na = (stM A i k).length by rw [stM_length]; exact Hna.out) hia (by rw [← Hgr.out, ← Hcr.out]; exact hO6) (by rw [← Hgr.out]; exact hG6) (by rw [mT_length, hrl])
                rwa [stM_set hiF] at h9)
              rw [Hgr.out] at hG6
              have HOn := Lib.hid (hOth.out.above hG6 (by have := (HXo.out.row i (by rw [stM_length]; exact hiF) (by rw [HXo.out.len, stM_length]; exact hiF)).lt; have := Hasz.out.1 _ (List.getElem_mem (show i < ada.length by rw [HXo.out.len, stM_length]; exact hiF)); omega))
              rw [← Hgr.out] at hG6 HOn
              have hgb : B1 ≤ gr ∧ gr ≠ b4 := by
                have a1 := hO.lt
                have a2 := (HSl.out.lt (by simp) : b4 < Z.heap.size)
                refine ⟨by omega, fun e9 => ?_⟩
                have hl0 : 0 < (is (mT A[i] k)).length := by rw [is_length, mT_length, hrl]; omega
                exact b4_ne HSl.out hO e9 (u := _) (v := .int .i64 ((mT A[i] k)[0]'(by rw [mT_length, hrl]; omega))) rfl (is_get (by rw [mT_length, hrl]; omega)) (by simp)
              have HSn := Lib.hid (HSl.out.grown hG6 (Ne.symm hgb.2))
              have hE6 := Lib.hid (ext_trans_grown hE hG6 (by omega))
              clear hO hO6 hG6 hst hz ht h1 HXo hOth HSl hE
              go_wp2_with fail
              go_roundw
              case rel => exact ⟨k + 1, by omega, by go_num, HXn, HOn, HSn, hE6.out⟩
              case measure => simp [intOf] <;> omega
            · have hke : k = n1 := by omega
              have hki : ¬ (k : Int) < (n1 : Int) := by omega
              have HXn := Lib.hid (show MatX B1 Z (.slice (some ⟨g, 0, none⟩) na ca) n1 (stM A (i + 1) 0) ada by rw [← stM_next hiF (hke.trans hrl.symm)]; exact HXo.out)
              clear HXo hrowl hke
              go_wp2_with fail
              go_roundw
              case rel => exact ⟨i + 1, by omega, by go_num, HXn, hOth, HSl, hE⟩
              case measure => simp [intOf] <;> omega
        · have hie : i = na := by omega
          have hii : ¬ (i : Int) < (na : Int) := by omega
          have HXn := Lib.hid (show MatX B1 Y (.slice sa na ca) n1 (modM A) ada by rw [← stM_all (show A.length ≤ i by rw [← Hna.out]; omega)]; exact HXo.out)
          clear HXo hie
          go_wp2_with fail
          go_roundw
          case rel => exact ⟨1, by omega, by go_num, HXn, hOth, HSl, hE⟩
          case measure => simp [intOf]
    · rw [show ((1 : Nat) : Int) = 1 from rfl]
      have c0 := HSl.out.cell 1 (.slice sb nb cb) rfl
      have HXo := Lib.hid (show MatX B2 X (.slice sb nb cb) n2 (stM B 0 0) adb by rw [stM_zero]; exact HXb.out)
      have hOth0 : Hid (MatX B1 X (.slice sa na ca) n1 (modM A) ada) := HXa
      simp only [Nat.zero_add] at c0
      go_wp2_with fail
      go_loopw [12] (fun iv wr => ∃ i : Nat, i ≤ nb ∧ iv = .int .i64 i ∧ Hid (MatX B2 wr (.slice sb nb cb) n2 (stM B i 0) adb) ∧ Hid (MatX B1 wr (.slice sa na ca) n1 (modM A) ada) ∧ Hid (Sl wr (some ⟨b4, 0, none⟩) b4 0 [.slice sa na ca, .slice sb nb cb]) ∧ Ext w2 wr) (fun iv _ => nb - (intOf iv).toNat)
      case atStart => exact ⟨0, by omega, by go_num, HXo, hOth0, HSl, hE⟩
      case round =>
        clear HXo hOth0 HSl hE HXa HXb c0
        obtain ⟨i, hi, rfl, HXo, hOth, HSl, hE⟩ := hrel
        generalize wr = Y at *
        by_cases hlt : i < nb
        · have hii : (i : Int) < (nb : Int) := by omega
          have hiF : i < B.length := by rw [← Hnb.out]; exact hlt
          obtain ⟨g, rfl⟩ := hgb (by omega)
          have hrl : B[i].length = n2 := HRB.out _ (List.getElem_mem hiF)
          go_wp2_with fail
          go_loopw [13] (fun kv wr => ∃ k : Nat, k ≤ n2 ∧ kv = .int .i64 k ∧ Hid (MatX B2 wr (.slice (some ⟨g, 0, none⟩) nb cb) n2 (stM B i k) adb) ∧ Hid (MatX B1 wr (.slice sa na ca) n1 (modM A) ada) ∧ Hid (Sl wr (some ⟨b4, 0, none⟩) b4 0 [.slice sa na ca, .slice (some ⟨g, 0, none⟩) nb cb]) ∧ Ext w2 wr) (fun kv _ => n2 - (intOf kv).toNat)
          case atStart => exact ⟨0, by omega, by go_num, HXo, hOth, HSl, hE⟩
          case round =>
            clear HXo hOth HSl hE
            obtain ⟨k, hk, rfl, HXo, hOth, HSl, hE⟩ := hrel
            generalize wr = Z at *
            have hia : i < adb.length := by rw [HXo.out.len, stM_length]; exact hiF
            have hd := HXo.out.hd (show nb = (stM B i k).length by rw [stM_length]; exact Hnb.out) hia
            obtain ⟨gr, hgr⟩ : ∃ gr, gr = (adb[i]'hia).1 := ⟨_, rfl⟩
            obtain ⟨cr, hcr⟩ : ∃ cr, cr = (adb[i]'hia).2 := ⟨_, rfl⟩
            rw [← hgr, ← hcr] at hd
            have Hgr := Lib.hid hgr
            have Hcr := Lib.hid hcr
            clear hgr hcr
            have hrowl : ((stM B i k)[i]'(by rw [stM_length]; exact hiF)) = mT B[i] k := by rw [stM_get hiF, if_neg (by omega), if_pos rfl]
            by_cases hlt2 : k < n2
            · have hki : (k : Int) < (n2 : Int) := by omega
              have hO := HXo.out.row i (by rw [stM_length]; exact hiF) hia
              rw [hrowl, ← Hgr.out, ← Hcr.out] at hO
              obtain ⟨z, hz⟩ : ∃ z, z = B[i][k]'(by rw [hrl]; exact hlt2) := ⟨_, rfl⟩
              have c1 := hO.cell (j := k) (by rw [is_length, mT_length, hrl]; exact hlt2)
              have h1 : (is (mT B[i] k))[k]'(by rw [is_length, mT_length, hrl]; exact hlt2) = .int .i64 z := by
                have := mT_get (r := B[i]) (k := k) (s := k) (by rw [hrl]; exact hlt2)
                rw [if_neg (by omega), ← hz] at this
                simp [is, this]
              rw [h1] at c1
              obtain ⟨t, ht⟩ : ∃ t, t = z.tmod 5 := ⟨_, rfl⟩
              have w1' : IntKind.i64.wrap t = t := IntWalk.i64_in _ (by
                have a1 := Int.tmod_lt_of_pos z (b := 5) (by omega)
                have a2 := Int.lt_tmod_of_pos z (b := 5) (by omega)
                omega)
              have ht' : z.tmod 5 = t := ht.symm
              have f5 := hO.frozen k
              obtain ⟨hO6, hG6⟩ := hO.set k (.int .i64 t)
              have hst : (is (mT B[i] k)).set k (.int .i64 t) = is (mT B[i] (k + 1)) := by
                rw [← is_set, ← mT_step (by rw [hrl]; exact hlt2), ht, hz]
              rw [hst] at hO6
              have HXn := Lib.hid (show MatX B2 (Z.setCell ⟨gr, k, none⟩ (.int .i64 t)) (.slice (some ⟨g, 0, none⟩) nb cb) n2 (stM B i (k + 1)) adb by
                have h9 := HXo.out.setRow (r := mT B[i] (k + 1)) (show nb = (stM B i k).length by rw [stM_length]; exact Hnb.out) hia (by rw [← Hgr.out, ← Hcr.out]; exact hO6) (by rw [← Hgr.out]; exact hG6) (by rw [mT_length, hrl])
                rwa [stM_set hiF] at h9)
              rw [Hgr.out] at hG6
              have HOn := Lib.hid (hOth.out.below hG6 Hasz.out (by have := (HXo.out.row i (by rw [stM_length]; exact hiF) (by rw [HXo.out.len, stM_length]; exact hiF)).lt; omega))
              rw [← Hgr.out] at hG6 HOn
              have hgb : B1 ≤ gr ∧ gr ≠ b4 := by
                have a1 := hO.lt
                have a2 := (HSl.out.lt (by simp) : b4 < Z.heap.size)
                refine ⟨by omega, fun e9 => ?_⟩
                have hl0 : 0 < (is (mT B[i] k)).length := by rw [is_length, mT_length, hrl]; omega
                exact b4_ne HSl.out hO e9 (u := _) (v := .int .i64 ((mT B[i] k)[0]'(by rw [mT_length, hrl]; omega))) rfl (is_get (by rw [mT_length, hrl]; omega)) (by simp)
              have HSn := Lib.hid (HSl.out.grown hG6 (Ne.symm hgb.2))
              have hE6 := Lib.hid (ext_trans_grown hE hG6 (by omega))
              clear hO hO6 hG6 hst hz ht h1 HXo hOth HSl hE
              go_wp2_with fail
              go_roundw
              case rel => exact ⟨k + 1, by omega, by go_num, HXn, HOn, HSn, hE6.out⟩
              case measure => simp [intOf] <;> omega
            · have hke : k = n2 := by omega
              have hki : ¬ (k : Int) < (n2 : Int) := by omega
              have HXn := Lib.hid (show MatX B2 Z (.slice (some ⟨g, 0, none⟩) nb cb) n2 (stM B (i + 1) 0) adb by rw [← stM_next hiF (hke.trans hrl.symm)]; exact HXo.out)
              clear HXo hrowl hke
              go_wp2_with fail
              go_roundw
              case rel => exact ⟨i + 1, by omega, by go_num, HXn, hOth, HSl, hE⟩
              case measure => simp [intOf] <;> omega
        · have hie : i = nb := by omega
          have hii : ¬ (i : Int) < (nb : Int) := by omega
          have HXn := Lib.hid (show MatX B2 Y (.slice sb nb cb) n2 (modM B) adb by rw [← stM_all (show B.length ≤ i by rw [← Hnb.out]; omega)]; exact HXo.out)
          clear HXo hie
          go_wp2_with fail
          go_roundw
          case rel => exact ⟨2, by omega, by go_num, hOth, HXn, HSl, hE⟩
          case measure => simp [intOf]
    · rw [show ((2 : Nat) : Int) = 2 from rfl]
      have hXX := hXw2.trans hE
      have HA := Lib.hid (show MatR X (.slice sa na ca) (modM A) from HXa.out.mato.mat)
      have HB := Lib.hid (show MatR X (.slice sb nb cb) (modM B) from HXb.out.mato.mat)
      have HM := Lib.hid (HMr.out.ext hE)
      have Ha0 := Lib.hid (show 0 < na → ∃ g s k, sa = some ⟨g, 0, none⟩ ∧ X.cell? ⟨g, 0, none⟩ = some (.slice s n1 k) from fun h0 => by
        obtain ⟨g, hg⟩ := hga h0
        have h9 : MatX B1 X (slv g na ca) n1 (modM A) ada := by have := HXa.out; rw [hg] at this; exact this
        exact ⟨g, _, _, hg, h9.hd (by rw [modM_length]; exact Hna.out) (show 0 < ada.length by rw [h9.len, modM_length, ← Hna.out]; exact h0)⟩)
      have Hb0 := Lib.hid (show 0 < nb → ∃ g s k, sb = some ⟨g, 0, none⟩ ∧ X.cell? ⟨g, 0, none⟩ = some (.slice s n2 k) from fun h0 => by
        obtain ⟨g, hg⟩ := hgb h0
        have h9 : MatX B2 X (slv g nb cb) n2 (modM B) adb := by have := HXb.out; rw [hg] at this; exact this
        exact ⟨g, _, _, hg, h9.hd (by rw [modM_length]; exact Hnb.out) (show 0 < adb.length by rw [h9.len, modM_length, ← Hnb.out]; exact h0)⟩)
      obtain ⟨sA, hsA⟩ : ∃ q, q = squareB (modM A) N := ⟨_, rfl⟩
      obtain ⟨sB, hsB⟩ : ∃ q, q = squareB (modM B) c := ⟨_, rfl⟩
      obtain ⟨uA, huAd⟩ : ∃ q, q = uniB (modM A) N := ⟨_, rfl⟩
      obtain ⟨uB, huBd⟩ : ∃ q, q = uniB (modM B) c := ⟨_, rfl⟩
      have HuA := Lib.hid (fun (h : sA = true) W v (a : MatR W v (modM A)) => by
        have := huA.out W v a
        unfold unimB at this
        rwa [← hsA, ← huAd, h, Bool.true_and] at this)
      have HuB := Lib.hid (fun (h : sB = true) W v (a : MatR W v (modM B)) => by
        have := huB.out W v a
        unfold unimB at this
        rwa [← hsB, ← huBd, h, Bool.true_and] at this)
      have HsA' := HsA.out
      have HsB' := HsB.out
      rw [← hsA, ← Hna.out] at HsA'
      rw [← hsB, ← Hnb.out] at HsB'
      rw [← hsA] at hm1 hm2
      rw [← hsB] at hm2
      have Hver' := Hver.out
      rw [← hsA, ← hsB, ← huAd, ← huBd] at Hver'
      have HSA := Lib.hid HsA'
      have HSB := Lib.hid HsB'
      obtain ⟨q, hq⟩ : ∃ q, q = verQ M F (modM A) (modM B) := ⟨_, rfl⟩
      rw [← hq] at hve Hver'
      have Hq := Lib.hid Hver'
      clear HXa HXb HSl hE HsA HsB HsA' HsB' Hver Hver' hsA hsB huAd huBd huA huB hq hga hgb hca hcb Hasz HRA HRB hB12 HMr
      go_wp2_with fail
      refine (hve.out _ _ _ _ HM.out HA.out HB.out (HL.out.ext hXX)).mono ?_
      rintro e w6 ⟨rfl, hE6⟩
      have hX6 := hXX.trans hE6
      replace HM := Lib.hid (HM.out.ext hE6)
      replace HA := Lib.hid (HA.out.ext hE6)
      replace HB := Lib.hid (HB.out.ext hE6)
      clear hve hXX
      go_wp2_with fail
      refine (hco.out _ _ HM.out).mono ?_
      rintro e w7 ⟨rfl, hE7⟩
      have hX7 := hX6.trans hE7
      have hE67 := hE6.trans hE7
      replace HM := Lib.hid (HM.out.ext hE7)
      replace HA := Lib.hid (HA.out.ext hE7)
      replace HB := Lib.hid (HB.out.ext hE7)
      have Ha1 := Lib.hid (show 0 < na → ∃ g s k, sa = some ⟨g, 0, none⟩ ∧ w7.cell? ⟨g, 0, none⟩ = some (.slice s n1 k) from fun h0 => by
        obtain ⟨g, s, k, h1, h2⟩ := Ha0.out h0
        exact ⟨g, s, k, h1, hE67.cell h2⟩)
      have Hb1 := Lib.hid (show 0 < nb → ∃ g s k, sb = some ⟨g, 0, none⟩ ∧ w7.cell? ⟨g, 0, none⟩ = some (.slice s n2 k) from fun h0 => by
        obtain ⟨g, s, k, h1, h2⟩ := Hb0.out h0
        exact ⟨g, s, k, h1, hE67.cell h2⟩)
      clear hco hX6 hE6 hE7 hE67 Ha0 Hb0
      go_upto_region 17 with fail
      go_cut [103] from 66 to 103 (fun bv wx => bv = .bool (!(sA && sB)) ∧ wx = w7)
      case first =>
        by_cases e1 : na = N
        · by_cases e2 : 0 < N → n1 = N
          · have hA' : sA = true := HSA.out.2 ⟨e1, e2⟩
            by_cases e3 : nb = c
            · by_cases e4 : 0 < c → n2 = c
              · have hv : (!(sA && sB)) = false := by rw [hA', HSB.out.2 ⟨e3, e4⟩]; rfl
                have Hv := Lib.hid hv
                subst e1
                subst e3
                clear hA' hv
                rcases Nat.eq_zero_or_pos na with h0 | h0
                · have hn := Hnil.out h0
                  subst h0
                  subst hn
                  go_wp2_with fail
                  go_meet
                  exact ⟨by rw [Hv.out], rfl⟩
                · have h0I : (0 : Int) < (na : Int) := by omega
                  have e2' := e2 h0
                  obtain ⟨g1, s1, k1, rfl, f1⟩ := Ha1.out h0
                  subst e2'
                  rcases Nat.eq_zero_or_pos nb with h9 | h9
                  · subst h9
                    go_wp2_with fail
                    go_meet
                    exact ⟨by rw [Hv.out], rfl⟩
                  · have h9I : (0 : Int) < (nb : Int) := by omega
                    have e4' := e4 h9
                    obtain ⟨g2, s2, k2, rfl, f2⟩ := Hb1.out h9
                    subst e4'
                    go_wp2_with fail
                    go_meet
                    exact ⟨by rw [Hv.out], rfl⟩
              · have hB' : sB = false := by
                  cases hb : sB
                  · rfl
                  · exact absurd (HSB.out.1 hb).2 e4
                have Hv := Lib.hid (show (!(sA && sB)) = true by rw [hA', hB']; rfl)
                subst e1
                subst e3
                clear hA' hB'
                rw [Classical.not_imp] at e4
                obtain ⟨h9, e4⟩ := e4
                have h9I : (0 : Int) < (nb : Int) := by omega
                obtain ⟨g2, s2, k2, rfl, f2⟩ := Hb1.out h9
                have e4I : ¬ (n2 : Int) = (nb : Int) := by omega
                have e4b : ((n2 : Int) == (nb : Int)) = false := beq_eq_false_iff_ne.2 e4I
                have e4c : ((n2 : Int) != (nb : Int)) = true := by simp [bne, e4b]
                have h0 : 0 < na := by
                  rcases Nat.eq_zero_or_pos na with h | h
                  · have := Hnil.out h; omega
                  · exact h
                have h0I : (0 : Int) < (na : Int) := by omega
                have e2' := e2 h0
                obtain ⟨g1, s1, k1, rfl, f1⟩ := Ha1.out h0
                subst e2'
                go_wp2_with fail
                go_meet
                exact ⟨by rw [Hv.out], rfl⟩
            · have hB' : sB = false := by
                cases hb : sB
                · rfl
                · exact absurd (HSB.out.1 hb).1 e3
              have Hv := Lib.hid (show (!(sA && sB)) = true by rw [hA', hB']; rfl)
              have e3I : ¬ (nb : Int) = (c : Int) := by omega
              have e3b : ((nb : Int) == (c : Int)) = false := beq_eq_false_iff_ne.2 e3I
              have e3c : ((nb : Int) != (c : Int)) = true := by simp [bne, e3b]
              subst e1
              clear hA' hB'
              rcases Nat.eq_zero_or_pos na with h0 | h0
              · subst h0
                go_wp2_with fail
                go_meet
                exact ⟨by rw [Hv.out], rfl⟩
              · have h0I : (0 : Int) < (na : Int) := by omega
                have e2' := e2 h0
                obtain ⟨g1, s1, k1, rfl, f1⟩ := Ha1.out h0
                subst e2'
                go_wp2_with fail
                go_meet
                exact ⟨by rw [Hv.out], rfl⟩
          · have hA' : sA = false := by
              cases hb : sA
              · rfl
              · exact absurd (HSA.out.1 hb).2 e2
            have Hv := Lib.hid (show (!(sA && sB)) = true by rw [hA']; rfl)
            subst e1
            clear hA'
            rw [Classical.not_imp] at e2
            obtain ⟨h0, e2⟩ := e2
            have h0I : (0 : Int) < (na : Int) := by omega
            obtain ⟨g1, s1, k1, rfl, f1⟩ := Ha1.out h0
            have e2I : ¬ (n1 : Int) = (na : Int) := by omega
            have e2b : ((n1 : Int) == (na : Int)) = false := beq_eq_false_iff_ne.2 e2I
            have e2c : ((n1 : Int) != (na : Int)) = true := by simp [bne, e2b]
            go_wp2_with fail
            go_meet
            exact ⟨by rw [Hv.out], rfl⟩
        · have hA' : sA = false := by
            cases hb : sA
            · rfl
            · exact absurd (HSA.out.1 hb).1 e1
          have Hv := Lib.hid (show (!(sA && sB)) = true by rw [hA']; rfl)
          have e1I : ¬ (na : Int) = (N : Int) := by omega
          have e1b : ((na : Int) == (N : Int)) = false := beq_eq_false_iff_ne.2 e1I
          have e1c : ((na : Int) != (N : Int)) = true := by simp [bne, e1b]
          clear hA'
          go_wp2_with fail
          go_meet
          exact ⟨by rw [Hv.out], rfl⟩
      case rest =>
      obtain ⟨rfl, rfl⟩ := hcut
      clear Ha1 Hb1 HSA HSB
      by_cases hs : sA = true ∧ sB = true
      · obtain ⟨rfl, rfl⟩ := hs
        have hq0 := Hq.out
        rw [if_pos ⟨rfl, rfl⟩] at hq0
        obtain ⟨fn, hfn⟩ : ∃ fn, fn = decide (uA = true ∧ uB = true ∧ (c = 0 ∨ mulM (mulM (modM A) M c) (modM B) c = F)) := ⟨_, rfl⟩
        have Hq2 := Lib.hid (show q = if fn = true then 0 else 23 by rw [hq0, hfn]; simp)
        have Hfn := Lib.hid hfn
        have hm1' := Lib.hid (hm1.out rfl)
        have hm2' := Lib.hid (hm2.out rfl rfl)
        have hA2 := Lib.hid (HuA.out rfl)
        have hB2 := Lib.hid (HuB.out rfl)
        clear Hq hq0 hfn hm1 hm2 HuA HuB
        go_wp2_with fail
        refine (hfo.out _ _ HM.out (HL.out.ext hX7)).mono ?_
        rintro e w8 ⟨u8, F2, rfl, hF2, hFU, hE8⟩
        obtain rfl := HFu.out F2 hFU
        obtain ⟨su, gu, ou, cu, vsu, rfl, _, _, _, _⟩ := id hF2
        have HF2 := Lib.hid hF2
        have hX8 := hX7.trans hE8
        replace HM := Lib.hid (HM.out.ext hE8)
        replace HA := Lib.hid (HA.out.ext hE8)
        replace HB := Lib.hid (HB.out.ext hE8)
        clear hF2 hFU HFu HF hE8 hX7 hfo
        obtain ⟨nf, hnf⟩ : ∃ n, n = F2.length := ⟨_, rfl⟩
        rw [← hnf] at HF2 ⊢
        clear hnf
        go_upto_region 20 with fail
        go_cut [18] from 111 to 141 (fun bv wx => bv = .bool fn ∧ Ext w8 wx)
        case first =>
          cases uA
          · have Hv := Lib.hid (show fn = false by rw [Hfn.out]; exact decide_eq_false (by rintro ⟨a, _⟩; cases a))
            go_wp2_with fail
            refine (hA2.out _ _ HA.out).mono ?_
            rintro e w9 ⟨rfl, hE9⟩
            go_wp2_with fail
            go_meet
            exact ⟨by rw [Hv.out], hE9⟩
          · go_wp2_with fail
            refine (hA2.out _ _ HA.out).mono ?_
            rintro e w9 ⟨rfl, hE9⟩
            replace HM := Lib.hid (HM.out.ext hE9)
            replace HA := Lib.hid (HA.out.ext hE9)
            replace HB := Lib.hid (HB.out.ext hE9)
            replace HF2 := Lib.hid (HF2.out.ext hE9)
            clear hA2
            cases uB
            · have Hv := Lib.hid (show fn = false by rw [Hfn.out]; exact decide_eq_false (by rintro ⟨_, a, _⟩; cases a))
              go_wp2_with fail
              refine (hB2.out _ _ HB.out).mono ?_
              rintro e w10 ⟨rfl, hE10⟩
              go_wp2_with fail
              go_meet
              exact ⟨by rw [Hv.out], hE9.trans hE10⟩
            · go_wp2_with fail
              refine (hB2.out _ _ HB.out).mono ?_
              rintro e w10 ⟨rfl, hE10⟩
              have hE910 := hE9.trans hE10
              replace HM := Lib.hid (HM.out.ext hE10)
              replace HA := Lib.hid (HA.out.ext hE10)
              replace HB := Lib.hid (HB.out.ext hE10)
              replace HF2 := Lib.hid (HF2.out.ext hE10)
              clear hB2 hE9 hE10
              rcases Nat.eq_zero_or_pos c with hc0 | hc0
              · have Hv := Lib.hid (show fn = true by rw [Hfn.out]; exact decide_eq_true (by simp [hc0]))
                subst hc0
                rcases Nat.eq_zero_or_pos N with h0 | h0
                · subst h0
                  go_wp2_with fail
                  go_meet
                  exact ⟨by rw [Hv.out], hE910⟩
                · have h0I : ¬ (N : Int) = 0 := by omega
                  have h0b : ((N : Int) == 0) = false := beq_eq_false_iff_ne.2 h0I
                  go_wp2_with fail
                  go_meet
                  exact ⟨by rw [Hv.out], hE910⟩
              · have hcI : ¬ (c : Int) = 0 := by omega
                have hcb : ((c : Int) == 0) = false := beq_eq_false_iff_ne.2 hcI
                have h0I : ¬ (N : Int) = 0 := fun e => by have := Hnil.out (by omega); omega
                have h0b : ((N : Int) == 0) = false := beq_eq_false_iff_ne.2 h0I
                obtain ⟨b9, hb9⟩ : ∃ b9, b9 = decide (mulM (mulM (modM A) M c) (modM B) c = F2) := ⟨_, rfl⟩
                have Hv := Lib.hid (show fn = b9 by
                  rw [Hfn.out, hb9]
                  refine decide_eq_decide.2 ⟨fun h => ?_, fun h => by simp [h]⟩
                  rcases h.2.2 with h | h
                  · omega
                  · exact h)
                rw [← hb9] at heq
                clear hb9
                go_wp2_with fail
                refine (hm1'.out _ _ _ HA.out HM.out).mono ?_
                rintro e w11 ⟨v11, rfl, hv11, hE11⟩
                have H11 := Lib.hid hv11.mat
                obtain ⟨s11, g11, o11, c11, vs11, rfl, _, _, _, _⟩ := id hv11.mat
                have hE11' := hE910.trans hE11
                replace HB := Lib.hid (HB.out.ext hE11)
                replace HF2 := Lib.hid (HF2.out.ext hE11)
                clear hv11 hE11 hE910 hm1'
                obtain ⟨n11, hn11⟩ : ∃ n, n = (mulM (modM A) M c).length := ⟨_, rfl⟩
                rw [← hn11] at H11 ⊢
                clear hn11
                go_wp2_with fail
                refine (hm2'.out hc0 _ _ _ H11.out HB.out).mono ?_
                rintro e w12 ⟨v12, rfl, hv12, hE12⟩
                have H12 := Lib.hid hv12.mat
                obtain ⟨s12, g12, o12, c12, vs12, rfl, _, _, _, _⟩ := id hv12.mat
                have hE12' := hE11'.trans hE12
                replace HF2 := Lib.hid (HF2.out.ext hE12)
                clear hv12 hE12 hE11' hm2'
                obtain ⟨n12, hn12⟩ : ∃ n, n = (mulM (mulM (modM A) M c) (modM B) c).length := ⟨_, rfl⟩
                rw [← hn12] at H12 ⊢
                clear hn12
                go_wp2_with fail
                refine (heq.out _ _ _ H12.out HF2.out).mono ?_
                rintro e w13 ⟨rfl, hE13⟩
                go_wp2_with fail
                go_meet
                exact ⟨by rw [Hv.out], hE12'.trans hE13⟩
        case rest =>
        obtain ⟨rfl, hEc⟩ := hcut
        have hXf := hX8.trans hEc
        cases fn
        · have hq5 : q = 23 := by rw [Hq2.out, if_neg (by simp)]
          subst hq5
          go_wp2_with fail
          go_ret
          exact ⟨rfl, hXf⟩
        · have hq5 : q = 0 := by rw [Hq2.out, if_pos rfl]
          subst hq5
          go_wp2_with fail
          go_ret
          exact ⟨rfl, hXf⟩
      · have hv : (!(sA && sB)) = true := by
          cases sA <;> cases sB <;> simp_all
        have hq5 : q = 5 := by rw [Hq.out, if_neg hs]
        rw [hv]
        subst hq5
        clear Hq hs hv
        go_wp2_with fail
        go_ret
        exact ⟨rfl, hX7⟩
end Go.Proofs.YtokjolmpdfmnbaaGreatDoor
