/- Part 2, beside the shared parts, of the proof of the claim: contracts and plain laws; no condition. -/
import Derived.Test.YtcklioolpicmcaaGreatDoorV01
import Derived.Test.YtcklioolpicmcaaGreatDoorV02
import Derived.Test.YtcklioolpicmcaaGreatDoorV03
import Derived.Test.YtcklioolpicmcaaGreatDoorV04
import Derived.Test.YtcklioolpicmcaaGreatDoorV05
import Derived.Test.YtcklioolpicmcaaGreatDoorV06
import Derived.Test.YtcklioolpicmcaaGreatDoorV07
import Derived.Test.YtcklioolpicmcaaGreatDoorV08
import Derived.Test.YtcklioolpicmcaaGreatDoorV09
import Derived.Test.YtcklioolpicmcaaGreatDoorV10
import Derived.Test.YtcklioolpicmcaaGreatDoorV11
import Derived.Test.YtcklioolpicmcaaGreatDoorV12
import Derived.Test.YtcklioolpicmcaaGreatDoorV13
import Derived.Test.YtcklioolpicmcaaGreatDoorV14
import Derived.Test.YtcklioolpicmcaaGreatDoorV15
import Derived.Test.YtcklioolpicmcaaGreatDoorV16
import Derived.Test.YtcklioolpicmcaaGreatDoorV17
import Derived.Test.YtcklioolpicmcaaGreatDoorV18
import Derived.Test.YtcklioolpicmcaaGreatDoorV19
import Derived.Test.YtcklioolpicmcaaGreatDoorV20
import Derived.Test.YtcklioolpicmcaaGreatDoorV21
import Derived.Test.YtcklioolpicmcaaGreatDoorV22
import Derived.Test.YtcklioolpicmcaaGreatDoorV23
import Derived.Test.YtcklioolpicmcaaGreatDoorV24
import Derived.Test.YtcklioolpicmcaaGreatDoorV25
import Derived.Test.YtcklioolpicmcaaGreatDoorV26
import Derived.Test.YtcklioolpicmcaaGreatDoorV27
import Derived.Test.YtcklioolpicmcaaGreatDoorV28
import Derived.Test.YtcklioolpicmcaaGreatDoorV29
import Derived.Test.YtcklioolpicmcaaGreatDoorV30
import Derived.Test.YtcklioolpicmcaaGreatDoorW01
import Derived.BigQuiet
namespace Go.Proofs.YtcklioolpicmcaaGreatDoor
open Hnf
theorem bd3g {m : Nat → Nat → Int} {N : Nat} {x : Nat → Int} (hm : ∀ i j, -9 ≤ m i j ∧ m i j ≤ 9) (hN : N ≤ 3) (hz : ∀ i j, N ≤ i → m i j = 0)
    (hb : ∀ j, -1080 ≤ T3 m x j ∧ T3 m x j ≤ 1080) (hxz : ∀ i, N ≤ i → x i = 0)
    (HR : ∀ (y : Nat → Int) p, (∀ j, T3 m y j = 0) → (∀ i, N ≤ i → y i = 0) → y p ≠ 0 → (∀ i, i < p → y i = 0) → 0 ≤ x p ∧ x p ≤ (y p).natAbs) :
    (x 0).natAbs ≤ 1000000 ∧ (x 1).natAbs ≤ 1000000 ∧ (x 2).natAbs ≤ 1000000 := by
  by_cases hA : ∃ j1 j2 j3, m 0 j1 * (m 1 j2 * m 2 j3 - m 2 j2 * m 1 j3) + m 0 j2 * (m 1 j3 * m 2 j1 - m 2 j3 * m 1 j1) + m 0 j3 * (m 1 j1 * m 2 j2 - m 2 j1 * m 1 j2) ≠ 0
  · obtain ⟨j1, j2, j3, hD⟩ := hA
    have t1 := hb j1; have t2 := hb j2; have t3 := hb j3
    have mn : ∀ i i' j j', -162 ≤ m i j * m i' j' - m i' j * m i j' ∧ m i j * m i' j' - m i' j * m i j' ≤ 162 := fun i i' j j' => by
      have h1 := pb3 (hm i j) (hm i' j'); have h2 := pb3 (hm i' j) (hm i j'); omega
    have fin : ∀ {z p q r : Int}, z * (m 0 j1 * (m 1 j2 * m 2 j3 - m 2 j2 * m 1 j3) + m 0 j2 * (m 1 j3 * m 2 j1 - m 2 j3 * m 1 j1) + m 0 j3 * (m 1 j1 * m 2 j2 - m 2 j1 * m 1 j2)) = T3 m x j1 * p + T3 m x j2 * q + T3 m x j3 * r → (-162 ≤ p ∧ p ≤ 162) → (-162 ≤ q ∧ q ≤ 162) → (-162 ≤ r ∧ r ≤ 162) → z.natAbs ≤ 1000000 := fun {z p q r} h hp hq hr => by
      have h1 := bd1 h hD
      have h2 := pb3 t1 hp
      have h3 := pb3 t2 hq
      have h4 := pb3 t3 hr
      omega
    refine ⟨fin (p := m 1 j2 * m 2 j3 - m 2 j2 * m 1 j3) (q := m 1 j3 * m 2 j1 - m 2 j3 * m 1 j1) (r := m 1 j1 * m 2 j2 - m 2 j1 * m 1 j2) ?_ (mn _ _ _ _) (mn _ _ _ _) (mn _ _ _ _), fin (p := m 2 j2 * m 0 j3 - m 0 j2 * m 2 j3) (q := m 2 j3 * m 0 j1 - m 0 j3 * m 2 j1) (r := m 2 j1 * m 0 j2 - m 0 j1 * m 2 j2) ?_ (mn _ _ _ _) (mn _ _ _ _) (mn _ _ _ _), fin (p := m 0 j2 * m 1 j3 - m 1 j2 * m 0 j3) (q := m 0 j3 * m 1 j1 - m 1 j3 * m 0 j1) (r := m 0 j1 * m 1 j2 - m 1 j1 * m 0 j2) ?_ (mn _ _ _ _) (mn _ _ _ _) (mn _ _ _ _)⟩ <;> (unfold T3; clear fin mn t1 t2 t3 HR hD; grind)
  have hA' : ∀ j1 j2 j3, m 0 j1 * (m 1 j2 * m 2 j3 - m 2 j2 * m 1 j3) + m 0 j2 * (m 1 j3 * m 2 j1 - m 2 j3 * m 1 j1) + m 0 j3 * (m 1 j1 * m 2 j2 - m 2 j1 * m 1 j2) = 0 := fun j1 j2 j3 => Classical.byContradiction fun h => hA ⟨j1, j2, j3, h⟩
  clear hA
  by_cases hB : ∃ j1 j2, m 1 j1 * m 2 j2 - m 2 j1 * m 1 j2 ≠ 0 ∨ m 2 j1 * m 0 j2 - m 0 j1 * m 2 j2 ≠ 0 ∨ m 0 j1 * m 1 j2 - m 1 j1 * m 0 j2 ≠ 0
  · obtain ⟨j1, j2, hv⟩ := hB
    obtain ⟨v0, e0⟩ : ∃ v0, v0 = m 1 j1 * m 2 j2 - m 2 j1 * m 1 j2 := ⟨_, rfl⟩
    obtain ⟨v1, e1⟩ : ∃ v1, v1 = m 2 j1 * m 0 j2 - m 0 j1 * m 2 j2 := ⟨_, rfl⟩
    obtain ⟨v2, e2⟩ : ∃ v2, v2 = m 0 j1 * m 1 j2 - m 1 j1 * m 0 j2 := ⟨_, rfl⟩
    rw [← e0, ← e1, ← e2] at hv
    have r0 : -162 ≤ v0 ∧ v0 ≤ 162 := by
      have h1 := pb3 (hm 1 j1) (hm 2 j2); have h2 := pb3 (hm 2 j1) (hm 1 j2); omega
    have r1 : -162 ≤ v1 ∧ v1 ≤ 162 := by
      have h1 := pb3 (hm 2 j1) (hm 0 j2); have h2 := pb3 (hm 0 j1) (hm 2 j2); omega
    have r2 : -162 ≤ v2 ∧ v2 ≤ 162 := by
      have h1 := pb3 (hm 0 j1) (hm 1 j2); have h2 := pb3 (hm 1 j1) (hm 0 j2); omega
    by_cases hN3 : N = 3
    · obtain ⟨al, ha⟩ : ∃ al, al = T3 m x j1 := ⟨_, rfl⟩
      obtain ⟨be, hbe⟩ : ∃ be, be = T3 m x j2 := ⟨_, rfl⟩
      have ba := hb j1
      have bb := hb j2
      rw [← ha] at ba
      rw [← hbe] at bb
      have i0 : x 1 * v2 - x 2 * v1 = m 0 j1 * be - m 0 j2 * al := by rw [e1, e2, ha, hbe]; unfold T3; grind
      have i1 : x 2 * v0 - x 0 * v2 = m 1 j1 * be - m 1 j2 * al := by rw [e0, e2, ha, hbe]; unfold T3; grind
      have i2 : x 0 * v1 - x 1 * v0 = m 2 j1 * be - m 2 j2 * al := by rw [e0, e1, ha, hbe]; unfold T3; grind
      have q0 : -19440 ≤ m 0 j1 * be - m 0 j2 * al ∧ m 0 j1 * be - m 0 j2 * al ≤ 19440 := by
        have h1 := pb3 (hm 0 j1) bb; have h2 := pb3 (hm 0 j2) ba; omega
      have q1 : -19440 ≤ m 1 j1 * be - m 1 j2 * al ∧ m 1 j1 * be - m 1 j2 * al ≤ 19440 := by
        have h1 := pb3 (hm 1 j1) bb; have h2 := pb3 (hm 1 j2) ba; omega
      have q2 : -19440 ≤ m 2 j1 * be - m 2 j2 * al ∧ m 2 j1 * be - m 2 j2 * al ≤ 19440 := by
        have h1 := pb3 (hm 2 j1) bb; have h2 := pb3 (hm 2 j2) ba; omega
      generalize m 0 j1 * be - m 0 j2 * al = s0 at *
      generalize m 1 j1 * be - m 1 j2 * al = s1 at *
      generalize m 2 j1 * be - m 2 j2 * al = s2 at *
      have hT : ∀ j, T3 m (v3 v0 v1 v2) j = 0 := fun j => by
        have := hA' j1 j2 j
        unfold T3
        rw [v3_0, v3_1, v3_2, e0, e1, e2]
        grind
      have hy3 : ∀ i, N ≤ i → v3 v0 v1 v2 i = 0 := fun i hi => v3_ge _ _ _ (by omega)
      clear hA' e0 e1 e2 ha hbe ba bb hb hm
      by_cases h0 : v0 = 0
      · by_cases h1 : v1 = 0
        · have h2 : v2 ≠ 0 := by rcases hv with h | h | h; (exact absurd h0 h); (exact absurd h1 h); exact h
          have hr := HR _ 2 hT hy3 (by rw [v3_2]; exact h2) (fun i hi => by
            rcases (show i = 0 ∨ i = 1 by omega) with rfl | rfl
            · rw [v3_0]; exact h0
            · rw [v3_1]; exact h1)
          rw [v3_2] at hr
          exact ⟨lin3 (z := x 0) (V := v2) (p := x 2) (q := v0) (r := -s1) (by omega) h2 (by omega) r0 (by omega), lin3 (z := x 1) (V := v2) (p := x 2) (q := v1) (r := s0) (by omega) h2 (by omega) r1 (by omega), by omega⟩
        · have hr := HR _ 1 hT hy3 (by rw [v3_1]; exact h1) (fun i hi => by
            obtain rfl : i = 0 := by omega
            rw [v3_0]; exact h0)
          rw [v3_1] at hr
          exact ⟨lin3 (z := x 0) (V := v1) (p := x 1) (q := v0) (r := s2) (by omega) h1 (by omega) r0 (by omega), by omega, lin3 (z := x 2) (V := v1) (p := x 1) (q := v2) (r := -s0) (by omega) h1 (by omega) r2 (by omega)⟩
      · have hr := HR _ 0 hT hy3 (by rw [v3_0]; exact h0) (fun i hi => by omega)
        rw [v3_0] at hr
        exact ⟨by omega, lin3 (z := x 1) (V := v0) (p := x 0) (q := v1) (r := -s2) (by omega) h0 (by omega) r1 (by omega), lin3 (z := x 2) (V := v0) (p := x 0) (q := v2) (r := s1) (by omega) h0 (by omega) r2 (by omega)⟩
    · have hz1 := hz 2 j1 (by omega)
      have hz2 := hz 2 j2 (by omega)
      have h0 : v0 = 0 := by rw [e0, hz1, hz2]; simp
      have h1 : v1 = 0 := by rw [e1, hz1, hz2]; simp
      have h2 : v2 ≠ 0 := by rcases hv with h | h | h; (exact absurd h0 h); (exact absurd h1 h); exact h
      have t1 := hb j1
      have t2 := hb j2
      have f0 : x 0 * v2 = T3 m x j1 * m 1 j2 - T3 m x j2 * m 1 j1 := by rw [e2]; unfold T3; rw [hz1, hz2]; clear t1 t2 HR; grind
      have f1 : x 1 * v2 = T3 m x j2 * m 0 j1 - T3 m x j1 * m 0 j2 := by rw [e2]; unfold T3; rw [hz1, hz2]; clear t1 t2 HR f0; grind
      have p1 := pb3 t1 (hm 1 j2)
      have p2 := pb3 t2 (hm 1 j1)
      have p3 := pb3 t2 (hm 0 j1)
      have p4 := pb3 t1 (hm 0 j2)
      have g0 := bd1 f0 h2
      have g1 := bd1 f1 h2
      have g2 := hxz 2 (by omega)
      omega
  have hB' : ∀ j1 j2, m 1 j1 * m 2 j2 = m 2 j1 * m 1 j2 ∧ m 2 j1 * m 0 j2 = m 0 j1 * m 2 j2 ∧ m 0 j1 * m 1 j2 = m 1 j1 * m 0 j2 := fun j1 j2 => by
    have h := fun h => hB ⟨j1, j2, h⟩
    refine ⟨?_, ?_, ?_⟩
    · exact Classical.byContradiction fun h2 => h (.inl (by omega))
    · exact Classical.byContradiction fun h2 => h (.inr (.inl (by omega)))
    · exact Classical.byContradiction fun h2 => h (.inr (.inr (by omega)))
  clear hB hA'
  by_cases hC : ∃ j, m 2 j ≠ 0
  · obtain ⟨j, hj⟩ := hC
    have hN3 : N = 3 := by
      rcases Nat.lt_or_ge 2 N with h | h
      · omega
      · exact absurd (hz 2 j h) hj
    have hr0 := HR (v3 (m 2 j) 0 (-m 0 j)) 0 (fun k => by
      have := (hB' j k).2.1
      unfold T3; rw [v3_0, v3_1, v3_2, Int.neg_mul]; omega) (fun i hi => v3_ge _ _ _ (by omega)) hj (fun i hi => by omega)
    have hr1 := HR (v3 0 (m 2 j) (-m 1 j)) 1 (fun k => by
      have := (hB' j k).1
      unfold T3; rw [v3_0, v3_1, v3_2, Int.neg_mul]; omega) (fun i hi => v3_ge _ _ _ (by omega)) hj (fun i hi => by rcases (show i = 0 by omega) with rfl; rfl)
    rw [v3_0] at hr0
    rw [v3_1] at hr1
    have m2 := hm 2 j
    have h0 := pb3 (s := 9) (t := 9) (a := x 0) (by omega) (hm 0 j)
    have h1 := pb3 (s := 9) (t := 9) (a := x 1) (by omega) (hm 1 j)
    have hbj := hb j
    have he : x 2 * m 2 j = T3 m x j - x 0 * m 0 j - x 1 * m 1 j := by unfold T3; omega
    have h2 := bd1 he hj
    omega
  have h2z : ∀ j, m 2 j = 0 := fun j => Classical.byContradiction fun h => hC ⟨j, h⟩
  have hx2 : (x 2).natAbs ≤ 1000000 := by
    rcases Nat.lt_or_ge 2 N with h | h
    · have hr := HR (v3 0 0 1) 2 (fun k => by unfold T3; rw [v3_0, v3_1, v3_2, h2z k]; simp) (fun i hi => v3_ge _ _ _ (by omega)) (by rw [v3_2]; omega) (fun i hi => by
        rcases (show i = 0 ∨ i = 1 by omega) with rfl | rfl <;> rfl)
      rw [v3_2] at hr; omega
    · rw [hxz 2 h]; simp
  by_cases hC1 : ∃ j, m 1 j ≠ 0
  · obtain ⟨j, hj⟩ := hC1
    have hN2 : 2 ≤ N := by
      rcases Nat.lt_or_ge 1 N with h | h
      · omega
      · exact absurd (hz 1 j h) hj
    have hr0 := HR (v3 (m 1 j) (-m 0 j) 0) 0 (fun k => by
      have := (hB' j k).2.2
      unfold T3; rw [v3_0, v3_1, v3_2, Int.neg_mul]; omega) (fun i hi => by
      rcases (show i = 2 ∨ 3 ≤ i by omega) with rfl | h
      · rfl
      · exact v3_ge _ _ _ h) hj (fun i hi => by omega)
    rw [v3_0] at hr0
    have m1 := hm 1 j
    have h0 := pb3 (s := 9) (t := 9) (a := x 0) (by omega) (hm 0 j)
    have hbj := hb j
    have he : x 1 * m 1 j = T3 m x j - x 0 * m 0 j := by unfold T3; rw [h2z j]; omega
    have h2 := bd1 he hj
    omega
  have h1z : ∀ j, m 1 j = 0 := fun j => Classical.byContradiction fun h => hC1 ⟨j, h⟩
  have hx1 : (x 1).natAbs ≤ 1000000 := by
    rcases Nat.lt_or_ge 1 N with h | h
    · have hr := HR (v3 0 1 0) 1 (fun k => by unfold T3; rw [v3_0, v3_1, v3_2, h1z k]; simp) (fun i hi => by
        rcases (show i = 2 ∨ 3 ≤ i by omega) with rfl | h
        · rfl
        · exact v3_ge _ _ _ h) (by rw [v3_1]; omega) (fun i hi => by rcases (show i = 0 by omega) with rfl; rfl)
      rw [v3_1] at hr; omega
    · rw [hxz 1 h]; simp
  by_cases hC0 : ∃ j, m 0 j ≠ 0
  · obtain ⟨j, hj⟩ := hC0
    have hbj := hb j
    have he : x 0 * m 0 j = T3 m x j := by unfold T3; rw [h2z j, h1z j]; omega
    have h2 := bd1 he hj
    omega
  have h0z : ∀ j, m 0 j = 0 := fun j => Classical.byContradiction fun h => hC0 ⟨j, h⟩
  rcases Nat.lt_or_ge 0 N with h | h
  · have hr := HR (v3 1 0 0) 0 (fun k => by unfold T3; rw [v3_0, v3_1, v3_2, h0z k]; simp) (fun i hi => by
      rcases (show i = 1 ∨ i = 2 ∨ 3 ≤ i by omega) with rfl | rfl | h
      · rfl
      · rfl
      · exact v3_ge _ _ _ h) (by rw [v3_0]; omega) (fun i hi => by omega)
    rw [v3_0] at hr
    omega
  · exact ⟨by rw [hxz 0 h]; simp, hx1, hx2⟩
theorem ent_b {c : Nat} {M : Mx} (hM : Rect c M) (hm : ∀ r ∈ M, ∀ z ∈ r, -9 ≤ z ∧ z ≤ 9) (i j : Nat) : -9 ≤ eM M i j ∧ eM M i j ≤ 9 := by
  by_cases hi : i < M.length
  · by_cases hj : j < M[i].length
    · unfold eM; rw [getD_get hi, getD_get hj]; exact hm _ (List.getElem_mem hi) _ (List.getElem_mem hj)
    · rw [eM_col hM (by have := hM _ (List.getElem_mem hi); omega)]; omega
  · rw [eM_row (by omega)]; omega
theorem vr_ge {y : List Int} {i : Nat} (h : y.length ≤ i) : vr y i = 0 := by unfold vr; simp [List.getD, List.getElem?_eq_none h]
theorem small_of {x : List Int} (hx : x.length ≤ 3) (hb : (vr x 0).natAbs ≤ 1000000 ∧ (vr x 1).natAbs ≤ 1000000 ∧ (vr x 2).natAbs ≤ 1000000) : smallB x = true := by
  unfold smallB
  rw [List.all_eq_true]
  intro z hzm
  obtain ⟨i, hi, rfl⟩ := List.getElem_of_mem hzm
  have hz3 : (x[i]).natAbs ≤ 1000000 := by
    have e : x[i] = vr x i := by unfold vr; rw [getD_get hi]
    rw [e]
    rcases (show i = 0 ∨ i = 1 ∨ i = 2 by omega) with rfl | rfl | rfl
    · exact hb.1
    · exact hb.2.1
    · exact hb.2.2
  unfold grt
  simp only [Bool.not_eq_true', decide_eq_false_iff_not]
  omega
theorem span_row {F : Mx} {i : Nat} (hi : i < F.length) : Span (latM F) (vr F[i]) := by
  refine Span.mem ?_
  unfold latM
  exact List.mem_map.2 ⟨_, List.getElem_mem hi, rfl⟩
theorem krn_small {c : Nat} {M H : Mx} (hM : Rect c M) (hN : M.length ≤ 3) (hm : ∀ r ∈ M, ∀ z ∈ r, -9 ≤ z ∧ z ≤ 9) (hH : HnfOf (c + M.length) (wideM M) H) : ∀ r ∈ krn c H, smallB r = true := by
  intro r hr
  obtain ⟨k, hk, rfl⟩ := List.getElem_of_mem hr
  obtain ⟨qs, hI, hS⟩ := krn_form hM hH
  have hl : (krn c H)[k].length = M.length := hI.rect _ (List.getElem_mem hk)
  have hself := (hS _).1 (span_row hk)
  have he : ∀ j, vr (krn c H)[k] j = eM (krn c H) k j := fun j => by unfold eM vr; rw [getD_get hk]
  refine small_of (by omega) (bd3g (m := eM M) (N := M.length) (ent_b hM hm) hN (fun i j h => eM_row h j) (fun j => ?_) hself.2 (fun y p hT hy hp h0 => ?_))
  · rw [← cmb_T3 hN]
    by_cases hj : j < c
    · rw [hself.1 j hj]; omega
    · rw [cmb_T3 hN]; unfold T3
      rw [eM_col hM (by omega), eM_col hM (by omega), eM_col hM (by omega)]; simp
  · have hs : Span (latM (krn c H)) y := (hS y).2 ⟨fun j _ => by rw [cmb_T3 hN]; exact hT j, hy⟩
    obtain ⟨i, hi, e, hd⟩ := hI.lead hs hp h0
    rw [he]
    have h1 := hI.pos i hi
    rw [e] at h1
    have h2 : eM (krn c H) i p ≤ ((y p).natAbs : Int) := Int.le_of_dvd (by omega) (Int.dvd_natAbs.2 hd)
    rcases (show i < k ∨ i = k ∨ k < i by omega) with h | h | h
    · have := hI.left k hk p (by rw [← e]; exact hI.inc i k h hk)
      omega
    · subst h; omega
    · have := hI.red k i h hi
      rw [e] at this
      omega
end Go.Proofs.YtcklioolpicmcaaGreatDoor
namespace Go.Proofs.YtcklioolpicmcaaGreatDoor
open Go.RowKit Go.Sort
set_option maxRecDepth 100000 in
set_option maxHeartbeats 1000000 in
theorem Pivot08_at {w : World} {v : Value} {x : List Int} {p : Nat} (hR : RowR w v x) (hp : p < x.length) (hl : x.length ≤ 1000000) (hn0 : x.getD p 0 ≠ 0) (hz : ∀ i, i < p → x.getD i 0 = 0) :
    Calls Tryz.prog 52 #[v] w fun e w' => e = .returned (.int .i64 p) ∧ Ext w w' := by
  obtain ⟨sa, gb, go, cap, rfl, hc, hS⟩ := hR
  obtain ⟨n, hn⟩ : ∃ n, n = x.length := ⟨_, rfl⟩
  rw [← hn] at hp hl ⊢
  have HS := Lib.hid hS
  have Hn := Lib.hid hn
  have H0 := Lib.hid hn0
  have HZ := Lib.hid hz
  obtain rfl := HS.out.addr (by rw [is_length, ← Hn.out]; omega)
  clear hS hn hc hn0 hz
  go_enter Tryz.func52, Tryz.ntmps52
  go_wp2_with fail
  go_loopw [3] (fun idx wr => ∃ i : Nat, i ≤ p ∧ idx = .int .i64 i ∧ Ext w wr) (fun idx _ => n - (intOf idx).toNat)
  case atStart => exact ⟨0, by omega, by go_num, Ext.refl _⟩
  case round =>
    obtain ⟨i, hi, rfl, hE⟩ := hrel
    generalize wr = X at *
    have hii : (i : Int) < (n : Int) := by omega
    have c1 := (HS.out.ext hE).cell i (.int .i64 (x[i]'(by rw [← Hn.out]; omega))) (is_get (by rw [← Hn.out]; omega))
    obtain ⟨z, hz⟩ : ∃ z, z = x[i]'(by rw [← Hn.out]; omega) := ⟨_, rfl⟩
    rw [← hz] at c1
    have Hz := Lib.hid (show x.getD i 0 = z by rw [hz, getD_get (by rw [← Hn.out]; omega)])
    clear hz
    by_cases hip : i = p
    · subst hip
      have hzn : z ≠ 0 := by rw [← Hz.out]; exact H0.out
      have hb1 : (z == 0) = false := beq_eq_false_iff_ne.2 hzn
      have hb2 : (z != 0) = true := by simp [bne, hb1]
      go_wp2_with fail
      go_ret
      exact ⟨rfl, hE⟩
    · have hz0 : z = 0 := by rw [← Hz.out]; exact HZ.out i (by omega)
      subst hz0
      go_wp2_with fail
      go_roundw
      case rel => exact ⟨i + 1, by omega, by go_num, hE⟩
      case measure => simp [intOf] <;> omega
set_option maxRecDepth 100000 in
set_option maxHeartbeats 4000000 in
theorem IsForm08_at {w : World} {v : Value} {K : Mx} {n : Nat} {ps : List Nat} (hK : MatR w v K) (hI : IsH n ps K) (hn : n ≤ 1000000) (hkl : K.length ≤ 1000000) :
    Calls Tryz.prog 51 #[v] w fun e w' => e = .returned (.bool true) ∧ Ext w w' := by
  have hpv := Lib.hid (fun W u k (hk : k < K.length) (h : RowR W u K[k]) => Pivot08_at (p := ps.getD k 0) h (by rw [hI.rect _ (List.getElem_mem hk)]; exact hI.lt k hk) (by rw [hI.rect _ (List.getElem_mem hk)]; exact hn) (by have := hI.pos k hk; unfold eM at this; rw [getD_get hk] at this; omega) (fun i hi => by have := hI.left k hk i hi; unfold eM at this; rwa [getD_get hk] at this))
  obtain ⟨sa, gb, go, cap, vs, rfl, hcap, hvl, hS, hrow⟩ := hK
  have HI := Lib.hid hI
  have HS := Lib.hid hS
  have HV := Lib.hid hvl
  have HR := Lib.hid hrow
  obtain ⟨m, hm⟩ : ∃ m, m = K.length := ⟨_, rfl⟩
  rw [← hm] at hkl ⊢
  have Hm := Lib.hid hm
  clear hI hS hvl hrow hcap hm
  have hrw := Lib.hid (fun i (hi : i < K.length) => (show ∃ br or cr, w.cell? ⟨gb, go + i, none⟩ = some (.slice (some ⟨br, or, none⟩) n cr) ∧ RowR w (.slice (some ⟨br, or, none⟩) n cr) K[i] ∧ (∀ p (hp : p < n) , w.cell? ⟨br, or + p, none⟩ = some (.int .i64 (eM K i p))) from by
    obtain ⟨sr, br, or, cr, hro, hrc, hSr⟩ := MatR.row HS.out HV.out HR.out hi
    have hln : K[i].length = n := HI.out.rect _ (List.getElem_mem hi)
    have h0 : 0 < n := by have := HI.out.lt i hi; omega
    obtain rfl := hSr.addr (by rw [is_length, hln]; omega)
    rw [hln] at hro
    refine ⟨br, or, cr, hro, ⟨_, br, or, cr, by rw [hln], hrc, hSr⟩, fun p hp => ?_⟩
    have := hSr.cell p (.int .i64 (K[i][p]'(by rw [hln]; exact hp))) (is_get (by rw [hln]; exact hp))
    unfold eM
    rw [getD_get hi, getD_get (show p < K[i].length by rw [hln]; exact hp)]; exact this))
  go_enter Tryz.func51, Tryz.ntmps51
  go_wp2_with fail
  go_loopw [3] (fun idx wr => ∃ i : Nat, i ≤ m ∧ idx = .int .i64 i ∧ Ext w wr) (fun idx _ => m - (intOf idx).toNat)
  case atStart => exact ⟨0, by omega, by go_num, Ext.refl _⟩
  case round =>
    obtain ⟨i, hi, rfl, hE⟩ := hrel
    generalize wr = X at *
    by_cases hlt : i < m
    · have hii : (i : Int) < (m : Int) := by omega
      have hiK : i < K.length := by rw [← Hm.out]; exact hlt
      obtain rfl := HS.out.addr (by rw [HV.out]; omega)
      obtain ⟨br, or, cr, CR, HRo, CP⟩ := hrw.out i hiK
      obtain ⟨p, hp⟩ : ∃ p, p = ps.getD i 0 := ⟨_, rfl⟩
      have hpn : p < n := by rw [hp]; exact HI.out.lt i hiK
      have hpv1 := Lib.hid (fun W (hW : Ext w W) => hpv.out W _ i hiK (HRo.ext hW))
      rw [← hp] at hpv1
      have CP1 := CP p hpn
      have hpos := HI.out.pos i hiK
      rw [← hp] at hpos
      obtain ⟨a, ha⟩ : ∃ a, a = eM K i p := ⟨_, rfl⟩
      rw [← ha] at CP1 hpos
      have Ha := Lib.hid ha
      have Hp := Lib.hid hp
      have HCR := Lib.hid CR
      have HCP := Lib.hid CP1
      have hro1 := hE.cell CR
      have hpi : (p : Int) < (n : Int) := by omega
      have d1 : decide (a ≤ 0) = false := decide_eq_false (by omega)
      have d0 : decide ((p : Int) < 0) = false := decide_eq_false (by omega)
      clear hp ha CR CP CP1 HRo
      go_wp2_with fail
      refine (hpv1.out X hE).mono ?_
      rintro e X1 ⟨rfl, hE1⟩
      have hX1 := hE.trans hE1
      have cP := hX1.cell HCP.out
      have cR := hX1.cell HCR.out
      clear hE1 hro1 hE
      by_cases hi0 : i = 0
      · subst hi0
        have cR0 : X1.cell? ⟨gb, go, none⟩ = some (.slice (some ⟨br, or, none⟩) n cr) := by simpa using cR
        have HE := Lib.hid hX1
        clear hX1 cR
        go_wp2_with fail
        go_loopw [5] (fun kv wr => kv = .int .i64 0 ∧ Ext w wr) (fun _ _ => 0)
        case atStart => exact ⟨by go_num, HE.out⟩
        case round =>
          obtain ⟨rfl, hEk⟩ := hrel
          clear HE
          generalize wr = Z at *
          go_wp2_with fail
          go_roundw
          case rel => exact ⟨1, by omega, by go_num, hEk⟩
          case measure => simp [intOf] <;> omega
      · have h0i : (0 : Int) < (i : Int) := by omega
        obtain ⟨bq, oq, cq, CQ, HRq, _⟩ := hrw.out (i - 1) (by rw [← Hm.out]; omega)
        have cQ := hX1.cell CQ
        obtain ⟨q, hq⟩ : ∃ q, q = ps.getD (i - 1) 0 := ⟨_, rfl⟩
        have hqp : (q : Int) < (p : Int) := by
          have := HI.out.inc (i - 1) i (by omega) hiK
          rw [← hq, ← Hp.out] at this
          omega
        have hpvq := Lib.hid (fun W (hW : Ext w W) => hpv.out W _ (i - 1) (by rw [← Hm.out]; omega) (HRq.ext hW))
        rw [← hq] at hpvq
        have f1 : decide ((p : Int) ≤ (q : Int)) = false := decide_eq_false (by omega)
        have f2 : ¬ (p : Int) ≤ (q : Int) := by omega
        have f3 : ¬ p ≤ q := by omega
        clear CQ HRq hq
        go_wp2_with fail
        refine (hpvq.out X1 hX1).mono ?_
        rintro e X2 ⟨rfl, hE2⟩
        have HE := Lib.hid (hX1.trans hE2)
        clear hE2 cP cR cQ hX1
        go_wp2_with fail
        go_loopw [5] (fun kv wr => ∃ k : Nat, k ≤ i ∧ kv = .int .i64 k ∧ Ext w wr) (fun kv _ => i - (intOf kv).toNat)
        case atStart => exact ⟨0, by omega, by go_num, HE.out⟩
        case round =>
          obtain ⟨k, hk, rfl, hEk⟩ := hrel
          clear HE
          generalize wr = Z at *
          by_cases hki : k < i
          · have hkI : (k : Int) < (i : Int) := by omega
            have hkm : (k : Int) < (m : Int) := by omega
            obtain ⟨bk, ok, ck, CKr, _, CKp⟩ := hrw.out k (by rw [← Hm.out]; omega)
            have CK1 := CKp p hpn
            have hred := HI.out.red k i hki hiK
            rw [← Hp.out, ← Ha.out] at hred
            obtain ⟨b, hb⟩ : ∃ b, b = eM K k p := ⟨_, rfl⟩
            rw [← hb] at CK1 hred
            obtain ⟨k1, k2⟩ := hred
            have e1 := hEk.cell CKr
            have e2 := hEk.cell CK1
            have e3 := hEk.cell HCR.out
            have e4 := hEk.cell HCP.out
            have g1 : decide (b < 0) = false := decide_eq_false (by omega)
            have g2 : decide (b ≥ a) = false := decide_eq_false (by omega)
            have g3 : decide (a ≤ b) = false := decide_eq_false (by omega)
            clear hb CKr CKp CK1
            go_wp2_with fail
            go_quiet (fail)
            go_wp2_with fail
            go_roundw
            case rel => exact ⟨k + 1, by omega, by go_num, hEk.drewN _⟩
            case measure => simp [intOf] <;> omega
          · have hkI : ¬ (k : Int) < (i : Int) := by omega
            go_wp2_with fail
            go_roundw
            case rel => exact ⟨i + 1, by omega, by go_num, hEk⟩
            case measure => simp [intOf] <;> omega
    · have hii : ¬ (i : Int) < (m : Int) := by omega
      go_wp2_with fail
      go_ret
      exact ⟨rfl, hE⟩
end Go.Proofs.YtcklioolpicmcaaGreatDoor
namespace Go.Proofs.YtcklioolpicmcaaGreatDoor
open Go.RowKit Go.Sort Hnf
theorem kr_lim {N c : Nat} (hN : N ≤ 3) (hc : c ≤ 3) : 2 * (2 * bC N 30 (c + N) + 2) + 2 < LIM := by
  rcases (show N = 0 ∨ N = 1 ∨ N = 2 ∨ N = 3 by omega) with rfl | rfl | rfl | rfl <;> rcases (show c = 0 ∨ c = 1 ∨ c = 2 ∨ c = 3 by omega) with rfl | rfl | rfl | rfl <;> decide
set_option maxRecDepth 100000 in
set_option maxHeartbeats 1000000 in
theorem wide_nil {w : World} {sa : Option Addr} {cap : Nat} : Calls Tryz.prog 62 #[.slice sa 0 cap] w fun e w' => e = .returned (.tuple #[.slice none 0 0, .int .i64 0]) ∧ Ext w w' := by
  go_enter Tryz.func62, Tryz.ntmps62
  go_wp2_with fail
  go_ret2
  exact ⟨rfl, Ext.refl _⟩
set_option maxRecDepth 100000 in
set_option maxHeartbeats 1000000 in
theorem Kernel_nil {w : World} {sa : Option Addr} {cap : Nat} (hL : Laid w) :
    Calls Tryz.prog 32 #[.slice sa 0 cap] w fun e w' => ∃ u, e = .returned (.tuple #[u, .int .i64 0]) ∧ MatR w' u [] ∧ Ext w w' := by
  have hM : MatR w (.slice sa 0 cap) [] := ⟨sa, 0, 0, cap, [], rfl, Nat.zero_le _, rfl, Sl.nil _ _ _ _, fun i h => by simp at h⟩
  have hch := Lib.hid (tableCheck_any hM)
  rw [show checkM [] = 0 from rfl] at hch
  have hkn := Lib.hid (fun W => kernel_any (w := W) (v := .slice none 0 0) (H := []) (c := 0) (m := 1) ⟨none, 0, 0, 0, [], rfl, Nat.le_refl _, rfl, Sl.nil _ _ _ _, fun i h => by simp at h⟩ (fun r hr => by cases hr) (by omega) (by simp) (by omega))
  have hsm := Lib.hid (fun W v (hW : Ext w W) (hK : GridR W v []) => ssmall_any hK (by simp) (fun r hr => by cases hr) (fun r hr => by cases hr) (hL.ext hW))
  clear hM hL
  go_enter Tryz.func32, Tryz.ntmps32
  go_wp2_with fail
  refine hch.out.mono ?_
  rintro e w1 ⟨rfl, hE1⟩
  go_wp2_with fail
  refine wide_nil.mono ?_
  rintro e w2 ⟨rfl, hE2⟩
  have hX2 := hE1.trans hE2
  go_wp2_with fail
  refine (hkn.out w2).mono ?_
  rintro e w3 ⟨vk, rfl, hK, hE3⟩
  have hX3 := hX2.trans hE3
  have hs3 := Lib.hid (hsm.out w3 vk hX3 hK)
  clear hK hkn hE3 hsm hE2 hE1 hX2
  go_wp2_with fail
  refine hs3.out.mono ?_
  rintro e w4 ⟨hp, hE4⟩
  rw [if_pos (by rfl)] at hp
  obtain ⟨v, rfl, hv⟩ := hp
  have hX4 := hX3.trans hE4
  have Hv := Lib.hid hv.mat
  clear hv
  go_wp2_with fail
  go_ret2
  exact ⟨_, rfl, Hv.out, hX4⟩
end Go.Proofs.YtcklioolpicmcaaGreatDoor
namespace Go.Proofs.YtcklioolpicmcaaGreatDoor
open Go.RowKit Go.Sort
section
variable {w : World} {ops : Array Oper} {rest : List Oper} {o : Oper} {a : Act} {Q : Exit → Act → World → Prop}
end
theorem isH_le {n : Nat} {ps : List Nat} {K : Mx} (h : IsH n ps K) : K.length ≤ n := by
  have hk : ∀ i, i < K.length → i ≤ ps.getD i 0 := fun i => by
    induction i with
    | zero => intro _; omega
    | succ i ih => intro hi; have := ih (by omega); have := h.inc i (i + 1) (by omega) hi; omega
  rcases Nat.eq_zero_or_pos K.length with h0 | h0
  · omega
  · have := hk (K.length - 1) (by omega)
    have := h.lt (K.length - 1) (by omega)
    omega
end Go.Proofs.YtcklioolpicmcaaGreatDoor
