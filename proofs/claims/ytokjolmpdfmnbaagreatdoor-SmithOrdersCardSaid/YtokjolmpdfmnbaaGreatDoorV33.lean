/- Part 33 of the proof of the claim: contracts of the functions that it reaches, and plain laws; no condition. -/
import Derived.Test.YtokjolmpdfmnbaaGreatDoorV32
import Derived.Test.YtokjolmpdfmnbaaGreatDoorV26
import Derived.Test.YtokjolmpdfmnbaaGreatDoorV21
import Derived.Test.YtokjolmpdfmnbaaGreatDoorV25
namespace Go.Proofs.YtokjolmpdfmnbaaGreatDoor
theorem dvd_scale {P m G : Int} (hP : P ≠ 0) (gens : List Int) (hG : ∀ g, g ∣ G ↔ ∀ z ∈ gens, g ∣ z) : P ∣ m * G ↔ ∀ z ∈ gens, P ∣ m * z := by
  obtain ⟨g, hg⟩ : ∃ g : Int, g = ((Int.gcd P m : Nat) : Int) := ⟨_, rfl⟩
  have hg0 : Int.gcd P m ≠ 0 := fun e => hP (Int.gcd_eq_zero_iff.1 e).1
  obtain ⟨p, hp⟩ : g ∣ P := by rw [hg]; exact Int.gcd_dvd_left _ _
  obtain ⟨q, hq⟩ : g ∣ m := by rw [hg]; exact Int.gcd_dvd_right _ _
  have hgz : g ≠ 0 := by omega
  have hco : Int.gcd p q = 1 := by
    have e : Int.gcd P m = g.natAbs * Int.gcd p q := by rw [hp, hq, Int.gcd_mul_left]
    have e2 : g.natAbs = Int.gcd P m := by omega
    rw [e2] at e
    have := Nat.eq_of_mul_eq_mul_left (by omega) (show Int.gcd P m * 1 = Int.gcd P m * Int.gcd p q by omega)
    exact this.symm
  have key : ∀ z, P ∣ m * z ↔ p ∣ z := fun z => by
    rw [hp, hq, Int.mul_assoc, Int.mul_dvd_mul_iff_left hgz]
    constructor
    · intro h
      have n1 : p.natAbs ∣ q.natAbs * z.natAbs := by rw [← Int.natAbs_mul]; exact Int.natAbs_dvd_natAbs.2 h
      exact Int.natAbs_dvd_natAbs.1 (Nat.Coprime.dvd_of_dvd_mul_left (show Nat.gcd p.natAbs q.natAbs = 1 from hco) n1)
    · intro h; exact Int.dvd_mul_of_dvd_right h
  rw [key, hG]
  exact ⟨fun h z hz => (key z).2 (h z hz), fun h z hz => (key z).1 (h z hz)⟩
theorem diag_x1 {A : FM} {d y : Nat → Int} (h : Dia A d) (g : Int) : X1 g (appF A y) ↔ g ∣ d 0 ∧ ∀ k, g ∣ y k := by
  constructor
  · intro hx
    refine ⟨?_, fun k => ?_⟩
    · have := hx 0 0
      unfold appF at this
      rw [if_neg (by omega), h.el, if_pos rfl] at this
      exact this
    · have := hx 3 k
      unfold appF at this
      rwa [if_pos rfl] at this
  · rintro ⟨h0, hy⟩ i k
    unfold appF
    by_cases hi : i = 3
    · rw [if_pos hi]; exact hy k
    · rw [if_neg hi]; exact (h.x1 g).2 h0 i k
theorem diag_m2 {A : FM} {d y : Nat → Int} (h : Dia A d) {g : Int} (hy : ∀ j k, k ≠ j → g ∣ y k * d j) (j k l : Nat) : g ∣ m2f y (A j) k l := by
  unfold m2f
  rw [h.el, h.el]
  by_cases h1 : j = l
  · rw [if_pos h1]
    by_cases h2 : j = k
    · rw [if_pos h2, ← h1, ← h2, Int.sub_self]; exact Int.dvd_zero _
    · rw [if_neg h2, Int.mul_zero, Int.sub_zero]; exact hy j k (Ne.symm h2)
  · rw [if_neg h1, Int.mul_zero, Int.zero_sub, Int.dvd_neg]
    by_cases h2 : j = k
    · rw [if_pos h2]; exact hy j l (Ne.symm h1)
    · rw [if_neg h2, Int.mul_zero]; exact Int.dvd_zero _
theorem diag_x2 {A : FM} {d y : Nat → Int} (h : Dia A d) (g : Int) : X2 g (appF A y) ↔ g ∣ d 0 * d 1 ∧ ∀ j k, k ≠ j → g ∣ y k * d j := by
  have r3 : appF A y 3 = y := by funext k; unfold appF; rw [if_pos rfl]
  have rn : ∀ i, i ≠ 3 → appF A y i = A i := fun i hi => by funext k; unfold appF; rw [if_neg hi]
  have e : ∀ i j k l, m2 (appF A y) i j k l = m2f (appF A y i) (appF A y j) k l := fun _ _ _ _ => rfl
  constructor
  · intro hx
    refine ⟨?_, fun j k hk => ?_⟩
    · have := hx 0 1 0 1
      rw [e, rn 0 (by omega), rn 1 (by omega)] at this
      unfold m2f at this
      rw [h.el, h.el, h.el, h.el] at this
      simpa using this
    · by_cases hj : j = 3
      · rw [h.far j (by omega), Int.mul_zero]; exact Int.dvd_zero _
      · have := hx 3 j k j
        rw [e, r3, rn j hj] at this
        unfold m2f at this
        rw [h.el, h.el, if_pos rfl, if_neg (Ne.symm hk), Int.mul_zero, Int.sub_zero] at this
        exact this
  · rintro ⟨h0, hy⟩ i j k l
    rw [e]
    by_cases hi : i = 3
    · by_cases hj : j = 3
      · subst hi hj
        have : m2f (appF A y 3) (appF A y 3) k l = 0 := by unfold m2f; rw [Int.mul_comm]; omega
        rw [this]; exact Int.dvd_zero _
      · subst hi
        rw [r3, rn j hj]; exact diag_m2 h hy j k l
    · by_cases hj : j = 3
      · subst hj
        rw [r3, rn i hi]
        have : m2f (A i) y k l = -m2f y (A i) k l := by unfold m2f; rw [Int.mul_comm (A i k), Int.mul_comm (A i l)]; omega
        rw [this, Int.dvd_neg]; exact diag_m2 h hy i k l
      · rw [rn i hi, rn j hj]
        exact (h.x2 g).2 h0 i j k l
theorem diag_t3 {A : FM} {d y : Nat → Int} (h : Dia A d) {g : Int} (hy : ∀ i j k, i ≠ j → k ≠ i → k ≠ j → g ∣ y k * (d i * d j)) (i j : Nat) {k l p : Nat} (h1 : k ≠ l) (h2 : k ≠ p) (h3 : l ≠ p) : g ∣ y k * m2f (A i) (A j) l p := by
  have one : ∀ l p, k ≠ l → k ≠ p → l ≠ p → g ∣ y k * (A i l * A j p) := fun l p h1 h2 h3 => by
    rw [h.el, h.el]
    by_cases a : i = l
    · by_cases b : j = p
      · rw [if_pos a, if_pos b]; exact hy i j k (by omega) (by omega) (by omega)
      · rw [if_neg b, Int.mul_zero, Int.mul_zero]; exact Int.dvd_zero _
    · rw [if_neg a, Int.zero_mul, Int.mul_zero]; exact Int.dvd_zero _
  unfold m2f
  rw [Int.mul_sub]
  exact Int.dvd_sub (one l p h1 h2 h3) (one p l h2 h1 (Ne.symm h3))
theorem diag_m3 {A : FM} {d y : Nat → Int} (h : Dia A d) {g : Int} (hy : ∀ i j k, i ≠ j → k ≠ i → k ≠ j → g ∣ y k * (d i * d j)) (i j k l p : Nat) : g ∣ m3f y (A i) (A j) k l p := by
  by_cases a : k = l
  · have : m3f y (A i) (A j) k l p = 0 := by subst a; unfold m3f m2f; grind
    rw [this]; exact Int.dvd_zero _
  · by_cases b : l = p
    · have : m3f y (A i) (A j) k l p = 0 := by subst b; unfold m3f m2f; grind
      rw [this]; exact Int.dvd_zero _
    · by_cases c : k = p
      · have : m3f y (A i) (A j) k l p = 0 := by subst c; unfold m3f m2f; grind
        rw [this]; exact Int.dvd_zero _
      · unfold m3f
        exact Int.dvd_add (Int.dvd_sub (diag_t3 h hy i j a c b) (diag_t3 h hy i j (Ne.symm a) b c)) (diag_t3 h hy i j (Ne.symm c) (Ne.symm b) a)
theorem diag_x3 {A : FM} {d y : Nat → Int} (h : Dia A d) (g : Int) : X3 g (appF A y) ↔ g ∣ d 0 * (d 1 * d 2) ∧ ∀ i j k, i ≠ j → k ≠ i → k ≠ j → g ∣ y k * (d i * d j) := by
  have r3 : appF A y 3 = y := by funext k; unfold appF; rw [if_pos rfl]
  have rn : ∀ i, i ≠ 3 → appF A y i = A i := fun i hi => by funext k; unfold appF; rw [if_neg hi]
  have e : ∀ i j m k l p, m3 (appF A y) i j m k l p = m3f (appF A y i) (appF A y j) (appF A y m) k l p := fun _ _ _ _ _ _ => rfl
  constructor
  · intro hx
    refine ⟨?_, fun i j k hij hki hkj => ?_⟩
    · have := hx 0 1 2 0 1 2
      rw [e, rn 0 (by omega), rn 1 (by omega), rn 2 (by omega)] at this
      exact (show m3f (A 0) (A 1) (A 2) 0 1 2 = d 0 * (d 1 * d 2) by unfold m3f m2f; simp [h.el]) ▸ this
    · by_cases hi : i = 3
      · rw [h.far i (by omega), Int.zero_mul, Int.mul_zero]; exact Int.dvd_zero _
      · by_cases hj : j = 3
        · rw [h.far j (by omega), Int.mul_zero, Int.mul_zero]; exact Int.dvd_zero _
        · have := hx 3 i j k i j
          rw [e, r3, rn i hi, rn j hj] at this
          unfold m3f m2f at this
          simpa [h.el, hij, Ne.symm hij, Ne.symm hki, Ne.symm hkj, hki, hkj] using this
  · rintro ⟨h0, hy⟩
    have base : ∀ i j m k l p, i < j → j < m → g ∣ m3 (appF A y) i j m k l p := fun i j m k l p hij hjm => by
      rw [e]
      by_cases hi : i = 3
      · subst hi; rw [r3, rn j (by omega), rn m (by omega)]; exact diag_m3 h hy j m k l p
      · by_cases hj : j = 3
        · subst hj; rw [r3, rn i hi, rn m (by omega), m3f_s12, Int.dvd_neg]; exact diag_m3 h hy i m k l p
        · by_cases hm : m = 3
          · subst hm; rw [r3, rn i hi, rn j hj, m3f_s23, Int.dvd_neg, m3f_s12, Int.dvd_neg]; exact diag_m3 h hy i j k l p
          · rw [rn i hi, rn j hj, rn m hm]; exact (h.x3 g).2 h0 i j m k l p
    intro i j m k l p
    refine sort3 (P := fun i j m => g ∣ m3 (appF A y) i j m k l p) (fun i j m h => ?_) (fun i j m h => ?_) (fun i m => ?_) (fun i m => ?_) (fun i j m a b => base i j m k l p a b) i j m
    · rw [m3_s12]; exact Int.dvd_neg.2 h
    · rw [m3_s23]; exact Int.dvd_neg.2 h
    · rw [m3_e12]; exact Int.dvd_zero _
    · rw [m3_e23]; exact Int.dvd_zero _
theorem ord_quot {P G : Int} {k : Nat} (hP : 0 < P) (hG0 : 0 ≤ G) (hGP : G ∣ P) (h : ∀ m : Int, P ∣ m * G ↔ (k : Int) ∣ m) : (k : Int) = P / G := by
  obtain ⟨t, ht⟩ := hGP
  have hG : G ≠ 0 := fun e => by rw [e, Int.zero_mul] at ht; omega
  have hG1 : 0 < G := by omega
  have ht0 : 0 < t := by
    rcases Int.lt_or_le 0 t with h | h
    · exact h
    · have := Int.mul_nonneg hG0 (show 0 ≤ -t by omega)
      rw [Int.mul_neg] at this
      omega
  have e : P / G = t := by rw [ht]; exact Int.mul_ediv_cancel_left _ hG
  rw [e]
  have h2 : ∀ m : Int, t ∣ m ↔ (k : Int) ∣ m := fun m => by
    rw [← h m, ht, Int.mul_comm m G, Int.mul_dvd_mul_iff_left hG]
  exact Int.dvd_antisymm (Int.natCast_nonneg _) (by omega) ((h2 _).1 (Int.dvd_refl _)) ((h2 _).2 (Int.dvd_refl _)) 
theorem ord_one {A : FM} {d y : Nat → Int} (h : Dia A d) (p0 : 0 < d 0) (hy : ∀ i, 1 ≤ i → y i = 0) {k : Nat} (hk : ∀ m : Int, (∀ i, d i ∣ m * y i) ↔ (k : Int) ∣ m) {G : Int} (hG0 : 0 ≤ G) (hG : ∀ g, g ∣ G ↔ X1 g (appF A y)) : (k : Int) = d 0 / G := by
  have hg : ∀ g, g ∣ G ↔ ∀ z ∈ [d 0, y 0], g ∣ z := fun g => by
    rw [hG, diag_x1 h]
    constructor
    · rintro ⟨a, b⟩ z hz
      simp only [List.mem_cons, List.not_mem_nil, or_false] at hz
      rcases hz with rfl | rfl
      · exact a
      · exact b 0
    · intro a
      refine ⟨a _ (by simp), fun i => ?_⟩
      rcases Nat.eq_zero_or_pos i with e | e
      · rw [e]; exact a _ (by simp)
      · rw [hy i e]; exact Int.dvd_zero _
  refine ord_quot p0 hG0 ((hg G).1 (Int.dvd_refl _) _ (by simp)) fun m => ?_
  rw [dvd_scale (by omega) _ hg, ← hk]
  constructor
  · intro a i
    rcases Nat.eq_zero_or_pos i with e | e
    · rw [e]; exact a _ (by simp)
    · rw [hy i e, Int.mul_zero]; exact Int.dvd_zero _
  · intro a z hz
    simp only [List.mem_cons, List.not_mem_nil, or_false] at hz
    rcases hz with rfl | rfl
    · exact Int.dvd_mul_left _ _
    · exact a 0
theorem ord_two {A : FM} {d y : Nat → Int} (h : Dia A d) (p0 : 0 < d 0) (p1 : 0 < d 1) (h2 : d 2 = 0) (hy : ∀ i, 2 ≤ i → y i = 0) {k : Nat} (hk : ∀ m : Int, (∀ i, d i ∣ m * y i) ↔ (k : Int) ∣ m) {G : Int} (hG0 : 0 ≤ G) (hG : ∀ g, g ∣ G ↔ X2 g (appF A y)) : (k : Int) = d 0 * d 1 / G := by
  have hz : ∀ i, 2 ≤ i → d i = 0 := fun i hi => by have := h.dv 2 i hi; rw [h2] at this; exact Int.zero_dvd.1 this
  have hg : ∀ g, g ∣ G ↔ ∀ z ∈ [d 0 * d 1, y 0 * d 1, y 1 * d 0], g ∣ z := fun g => by
    rw [hG, diag_x2 h]
    constructor
    · rintro ⟨a, b⟩ z hz
      simp only [List.mem_cons, List.not_mem_nil, or_false] at hz
      rcases hz with rfl | rfl | rfl
      · exact a
      · exact b 1 0 (by omega)
      · exact b 0 1 (by omega)
    · intro a
      refine ⟨a _ (by simp), fun j i hij => ?_⟩
      rcases Nat.lt_or_ge j 2 with ej | ej
      · rcases Nat.lt_or_ge i 2 with ei | ei
        · rcases (show (j = 1 ∧ i = 0) ∨ (j = 0 ∧ i = 1) by omega) with ⟨rfl, rfl⟩ | ⟨rfl, rfl⟩
          · exact a _ (by simp)
          · exact a _ (by simp)
        · rw [hy i ei, Int.zero_mul]; exact Int.dvd_zero _
      · rw [hz j ej, Int.mul_zero]; exact Int.dvd_zero _
  refine ord_quot (Int.mul_pos p0 p1) hG0 ((hg G).1 (Int.dvd_refl _) _ (by simp)) fun m => ?_
  have hP : d 0 * d 1 ≠ 0 := by have := Int.mul_pos p0 p1; omega
  rw [dvd_scale hP _ hg, ← hk]
  have f0 : d 0 * d 1 ∣ m * (y 0 * d 1) ↔ d 0 ∣ m * y 0 := by rw [← Int.mul_assoc, Int.mul_dvd_mul_iff_right (by omega)]
  have f1 : d 0 * d 1 ∣ m * (y 1 * d 0) ↔ d 1 ∣ m * y 1 := by rw [← Int.mul_assoc, Int.mul_comm (d 0), Int.mul_dvd_mul_iff_right (by omega)]
  constructor
  · intro a i
    rcases (show i = 0 ∨ i = 1 ∨ 2 ≤ i by omega) with rfl | rfl | e
    · exact f0.1 (a _ (by simp))
    · exact f1.1 (a _ (by simp))
    · rw [hy i e, Int.mul_zero]; exact Int.dvd_zero _
  · intro a z hz
    simp only [List.mem_cons, List.not_mem_nil, or_false] at hz
    rcases hz with rfl | rfl | rfl
    · exact Int.dvd_mul_left _ _
    · exact f0.2 (a 0)
    · exact f1.2 (a 1)
theorem ord_three {A : FM} {d y : Nat → Int} (h : Dia A d) (p0 : 0 < d 0) (p1 : 0 < d 1) (p2 : 0 < d 2) (hy : ∀ i, 3 ≤ i → y i = 0) {k : Nat} (hk : ∀ m : Int, (∀ i, d i ∣ m * y i) ↔ (k : Int) ∣ m) {G : Int} (hG0 : 0 ≤ G) (hG : ∀ g, g ∣ G ↔ X3 g (appF A y)) : (k : Int) = d 0 * (d 1 * d 2) / G := by
  have hg : ∀ g, g ∣ G ↔ ∀ z ∈ [d 0 * (d 1 * d 2), y 0 * (d 1 * d 2), y 1 * (d 0 * d 2), y 2 * (d 0 * d 1)], g ∣ z := fun g => by
    rw [hG, diag_x3 h]
    constructor
    · rintro ⟨a, b⟩ z hz
      simp only [List.mem_cons, List.not_mem_nil, or_false] at hz
      rcases hz with rfl | rfl | rfl | rfl
      · exact a
      · exact b 1 2 0 (by omega) (by omega) (by omega)
      · exact b 0 2 1 (by omega) (by omega) (by omega)
      · exact b 0 1 2 (by omega) (by omega) (by omega)
    · intro a
      have b0 := a (y 0 * (d 1 * d 2)) (by simp)
      have b1 := a (y 1 * (d 0 * d 2)) (by simp)
      have b2 := a (y 2 * (d 0 * d 1)) (by simp)
      refine ⟨a _ (by simp), fun i j k e1 e2 e3 => ?_⟩
      by_cases ei : 3 ≤ i
      · rw [h.far i ei, Int.zero_mul, Int.mul_zero]; exact Int.dvd_zero _
      by_cases ej : 3 ≤ j
      · rw [h.far j ej, Int.mul_zero, Int.mul_zero]; exact Int.dvd_zero _
      by_cases ek : 3 ≤ k
      · rw [hy k ek, Int.zero_mul]; exact Int.dvd_zero _
      rcases (show (k = 0 ∧ i = 1 ∧ j = 2) ∨ (k = 0 ∧ i = 2 ∧ j = 1) ∨ (k = 1 ∧ i = 0 ∧ j = 2) ∨ (k = 1 ∧ i = 2 ∧ j = 0) ∨ (k = 2 ∧ i = 0 ∧ j = 1) ∨ (k = 2 ∧ i = 1 ∧ j = 0) by omega) with ⟨rfl, rfl, rfl⟩ | ⟨rfl, rfl, rfl⟩ | ⟨rfl, rfl, rfl⟩ | ⟨rfl, rfl, rfl⟩ | ⟨rfl, rfl, rfl⟩ | ⟨rfl, rfl, rfl⟩
      · exact b0
      · rw [Int.mul_comm (d 2)]; exact b0
      · exact b1
      · rw [Int.mul_comm (d 2)]; exact b1
      · exact b2
      · rw [Int.mul_comm (d 1)]; exact b2
  have hp12 := Int.mul_pos p1 p2
  have hp02 := Int.mul_pos p0 p2
  have hp01 := Int.mul_pos p0 p1
  have hpp := Int.mul_pos p0 hp12
  refine ord_quot hpp hG0 ((hg G).1 (Int.dvd_refl _) _ (by simp)) fun m => ?_
  rw [dvd_scale (by omega) _ hg, ← hk]
  have f0 : d 0 * (d 1 * d 2) ∣ m * (y 0 * (d 1 * d 2)) ↔ d 0 ∣ m * y 0 := by rw [← Int.mul_assoc m, Int.mul_dvd_mul_iff_right (by omega)]
  have f1 : d 0 * (d 1 * d 2) ∣ m * (y 1 * (d 0 * d 2)) ↔ d 1 ∣ m * y 1 := by rw [show d 0 * (d 1 * d 2) = d 1 * (d 0 * d 2) by grind, ← Int.mul_assoc m, Int.mul_dvd_mul_iff_right (by omega)]
  have f2 : d 0 * (d 1 * d 2) ∣ m * (y 2 * (d 0 * d 1)) ↔ d 2 ∣ m * y 2 := by rw [show d 0 * (d 1 * d 2) = d 2 * (d 0 * d 1) by grind, ← Int.mul_assoc m, Int.mul_dvd_mul_iff_right (by omega)]
  constructor
  · intro a i
    rcases (show i = 0 ∨ i = 1 ∨ i = 2 ∨ 3 ≤ i by omega) with rfl | rfl | rfl | e
    · exact f0.1 (a _ (by simp))
    · exact f1.1 (a _ (by simp))
    · exact f2.1 (a _ (by simp))
    · rw [hy i e, Int.mul_zero]; exact Int.dvd_zero _
  · intro a z hz
    simp only [List.mem_cons, List.not_mem_nil, or_false] at hz
    rcases hz with rfl | rfl | rfl | rfl
    · exact Int.dvd_mul_left _ _
    · exact f0.2 (a 0)
    · exact f1.2 (a 1)
    · exact f2.2 (a 2)
end Go.Proofs.YtokjolmpdfmnbaaGreatDoor
namespace Go.Proofs.YtokjolmpdfmnbaaGreatDoor
open Hnf
theorem lcmfold_ne : ∀ (cs : List (Int × Int)) (k : Nat), k ≠ 0 → (∀ q ∈ cs, 0 < q.2) → cs.foldl (fun k q => Nat.lcm k q.2.natAbs) k ≠ 0
  | [], _, h, _ => h
  | q :: cs, k, h, hq => lcmfold_ne cs _ (by have := hq q (by simp); exact Nat.lcm_ne_zero h (by omega)) fun x hx => hq x (by simp [hx])
theorem ord_ne {n : Nat} {ps : List Nat} {H : Mx} (hI : IsH n ps H) {x : List Int} (hx : x.length = n) {s : List (Int × Int)} {k : Nat} (h : ordF H (x.map fun z => (z, (1 : Int))) 1 = (s, k)) : k ≠ 0 := by
  obtain ⟨cs, c1, c2, c3, c4, c5, c6, c7⟩ := ordF_law H (x.map fun z => (z, (1 : Int))) 1 hI.rect (isH_echl hI) (by simpa using hx) (fun j => by
    rw [List.getD_eq_getElem?_getD, List.getElem?_map]
    rcases x[j]? with _ | z <;> simp)
  rw [h] at c4
  simp only at c4
  rw [c4]
  exact lcmfold_ne cs 1 (by omega) fun q hq => (c2 q hq).1
theorem DvJ.uniq {M : Mx} {n c j j' : Nat} (h : DvJ M n c j) (h' : DvJ M n c j') : j = j' := by
  obtain ⟨a1, a2, a3, a4⟩ := h
  obtain ⟨b1, b2, b3, b4⟩ := h'
  rcases Nat.lt_trichotomy j j' with e | e | e
  · exact absurd (a4 (by omega) (by omega)) (b3 j e)
  · exact e
  · exact absurd (b4 (by omega) (by omega)) (a3 j' e)
def prD (d : Nat → Int) : Nat → Int
  | 0 => 1
  | 1 => d 0
  | 2 => d 0 * d 1
  | _ => d 0 * (d 1 * d 2)
theorem prD_pos {d : Nat → Int} {r : Nat} (h : ∀ i, i < r → 0 < d i) (hr : r ≤ 3) : 0 < prD d r := by
  rcases (show r = 0 ∨ r = 1 ∨ r = 2 ∨ r = 3 by omega) with rfl | rfl | rfl | rfl
  · show (0 : Int) < 1; omega
  · exact h 0 (by omega)
  · exact Int.mul_pos (h 0 (by omega)) (h 1 (by omega))
  · exact Int.mul_pos (h 0 (by omega)) (Int.mul_pos (h 1 (by omega)) (h 2 (by omega)))
theorem prD_dvd {d : Nat → Int} {r : Nat} (hr : r ≤ 3) : ∀ i, i < r → d i ∣ prD d r := fun i hi => by
  rcases (show r = 1 ∨ r = 2 ∨ r = 3 by omega) with rfl | rfl | rfl
  · obtain rfl : i = 0 := by omega
    exact Int.dvd_refl _
  · rcases (show i = 0 ∨ i = 1 by omega) with rfl | rfl
    · exact Int.dvd_mul_right _ _
    · exact Int.dvd_mul_left _ _
  · rcases (show i = 0 ∨ i = 1 ∨ i = 2 by omega) with rfl | rfl | rfl
    · exact Int.dvd_mul_right _ _
    · exact Int.dvd_mul_of_dvd_right (Int.dvd_mul_right _ _)
    · exact Int.dvd_mul_of_dvd_right (Int.dvd_mul_left _ _)
structure OrdAll (M : Mx) (b : List Int) (s : List (Int × Int)) (k : Nat) (j j' : Nat) : Prop where
  found : (∀ i, (s.getD i (0, 1)).1 = 0) ↔ j = j'
  pos : k ≠ 0
  quot : j = j' → k = lastD M M.length (ncols M) j / lastD (M ++ [b]) (M.length + 1) (ncols M) j'
  fin : ∀ D, FacIs M D → j = j' → D.length = ncols M → 0 < ncols M → (k : Int) ∣ D.getD (ncols M - 1) 0
theorem ord_all {M H : Mx} {b : List Int} (h : SmM M) (h0 : 0 < M.length) (hc0 : 0 < ncols M) (hbl : b.length = ncols M) (hH : HnfOf (ncols M) M H) {s : List (Int × Int)} {k : Nat} (hs : ordF H (b.map fun z => (z, (1 : Int))) 1 = (s, k))
    {j j' : Nat} (hj : DvJ M M.length (ncols M) j) (hj' : DvJ (M ++ [b]) (M.length + 1) (ncols M) j') : OrdAll M b s k j j' := by
  have hS : SmF M := h.smf h0 hc0
  obtain ⟨rank, fin, T, hf, hT⟩ := hS.tr
  obtain ⟨hd, hp, hz⟩ := hf.dia h.n3
  obtain rfl := dvj_rank rfl h.rect h.n3 h.c3 hf hj
  obtain ⟨e0, e1, e2⟩ := dv_dia rfl h.rect h.n3 h.c3 hf
  have hn3 := h.n3
  have hc3 := h.c3
  have hrn := hf.rn
  have hrc := hf.rc
  obtain ⟨⟨ps, hI⟩, hin, hout⟩ := id hH
  obtain ⟨l1, l2, l3⟩ := ord_lat hI hbl hs
  have hk0 := ord_ne hI hbl hs
  obtain ⟨d, hdd⟩ : ∃ d : Nat → Int, d = fun i => eM fin.a i i := ⟨_, rfl⟩
  have hde : ∀ i, eM fin.a i i = d i := fun i => by rw [hdd]
  rw [← hdd] at hd
  simp only [hde] at hp hz e0 e1 e2
  obtain ⟨y, hy⟩ : ∃ y, y = T (vr b) := ⟨_, rfl⟩
  have hb3 : ∀ i, 3 ≤ i → vr b i = 0 := fun i hi => vr_ge (by omega)
  have hy3 : ∀ i, 3 ≤ i → y i = 0 := by rw [hy]; exact hT.far _ hb3
  -- the lattice
  have hlat : ∀ m : Int, Span (latM H) (fun i => m * vr b i) ↔ ∀ i, d i ∣ m * y i := fun m => by
    have a1 : Span (latM H) (fun i => m * vr b i) ↔ Span (latM M) (fun i => m * vr b i) := ⟨Span.trans hin, Span.trans hout⟩
    have hm3 : ∀ i, 3 ≤ i → m * vr b i = 0 := fun i hi => by rw [hb3 i hi, Int.mul_zero]
    rw [a1, ← inl_span h.n3, hT.inl, hd.inl (hT.far _ hm3), hT.mul, ← hy]
    constructor
    · intro a i
      by_cases hi : i < 3
      · exact a i hi
      · rw [hy3 i (by omega), Int.mul_zero]; exact Int.dvd_zero _
    · exact fun a i _ => a i
  -- the rows with the further row
  have hX : ∀ g, (X1 g (eM (M ++ [b])) ↔ X1 g (appF (eM fin.a) y)) ∧ (X2 g (eM (M ++ [b])) ↔ X2 g (appF (eM fin.a) y)) ∧ (X3 g (eM (M ++ [b])) ↔ X3 g (appF (eM fin.a) y)) := fun g => by
    have a := (snoc_eqv (b := b) h.n3).symm.trans (hT.eqv (vr b))
    rw [← hy] at a
    exact ⟨a.e1 g, a.e2 g, a.e3 g⟩
  have hRm : Rect (ncols M) (M ++ [b]) := fun r hr => by
    rcases List.mem_append.1 hr with hr | hr
    · exact h.rect r hr
    · rw [List.mem_singleton.1 hr]; exact hbl
  have g1 : ∀ g, g ∣ (dvA (M ++ [b]) (M.length + 1) (ncols M) 0 : Int) ↔ X1 g (appF (eM fin.a) y) := fun g => (div1 (by simp) hRm (by omega) (by omega) g).trans (hX g).1
  have g2 : ∀ g, g ∣ (dvA (M ++ [b]) (M.length + 1) (ncols M) 1 : Int) ↔ X2 g (appF (eM fin.a) y) := fun g => (div2 (by simp) hRm (by omega) (by omega) g).trans (hX g).2.1
  have g3 : ∀ g, g ∣ (dvA (M ++ [b]) (M.length + 1) (ncols M) 2 : Int) ↔ X3 g (appF (eM fin.a) y) := fun g => (div3 (by simp) hRm (by omega) (by omega) g).trans (hX g).2.2
  have hP := prD_pos hp (show j ≤ 3 by omega)
  -- found
  have f1 : (∀ i, (s.getD i (0, 1)).1 = 0) ↔ ∀ i, j ≤ i → y i = 0 := by
    constructor
    · intro a i hi
      have := (hlat k).1 ((l2 a k).2 (Int.dvd_refl _)) i
      rw [hz i hi, Int.zero_dvd, Int.mul_eq_zero] at this
      rcases this with e | e
      · exact absurd e (by omega)
      · exact e
    · intro a
      refine Classical.byContradiction fun hn => l3 hn (prD d j) (by omega) ((hlat _).2 fun i => ?_)
      by_cases hi : i < j
      · exact Int.dvd_mul_of_dvd_left (prD_dvd (by omega) i hi)
      · rw [a i (by omega), Int.mul_zero]; exact Int.dvd_zero _
  have zero : ∀ {a : Nat}, (0 : Int) ∣ (a : Int) ↔ a = 0 := fun {a} => by rw [Int.zero_dvd]; omega
  have f2 : (∀ i, j ≤ i → y i = 0) ↔ j = j' := by
    constructor
    · intro a
      refine DvJ.uniq (M := M ++ [b]) (n := M.length + 1) (c := ncols M) ⟨by omega, hrc, fun t ht e => ?_, fun a1 a2 => ?_⟩ hj'
      · rcases (show t = 0 ∨ t = 1 ∨ t = 2 by omega) with rfl | rfl | rfl
        · have a1 := (diag_x1 hd 0).1 ((g1 0).1 (zero.2 e))
          have := hp 0 ht
          have := Int.zero_dvd.1 a1.1; omega
        · have a1 := (diag_x2 hd 0).1 ((g2 0).1 (zero.2 e))
          have := Int.mul_pos (hp 0 (by omega)) (hp 1 ht)
          have := Int.zero_dvd.1 a1.1; omega
        · have a1 := (diag_x3 hd 0).1 ((g3 0).1 (zero.2 e))
          have := Int.mul_pos (hp 0 (by omega)) (Int.mul_pos (hp 1 (by omega)) (hp 2 ht))
          have := Int.zero_dvd.1 a1.1; omega
      · refine zero.1 ?_
        rcases (show j = 0 ∨ j = 1 ∨ j = 2 by omega) with e | e | e <;> subst e
        · refine (g1 0).2 ((diag_x1 hd 0).2 ⟨by rw [hz 0 (Nat.le_refl _)]; exact Int.dvd_refl _, fun i => by rw [a i (Nat.zero_le _)]; exact Int.dvd_refl _⟩)
        · refine (g2 0).2 ((diag_x2 hd 0).2 ⟨by rw [hz 1 (Nat.le_refl _), Int.mul_zero]; exact Int.dvd_refl _, fun i l hl => ?_⟩)
          by_cases h1 : 1 ≤ l
          · rw [a l h1, Int.zero_mul]; exact Int.dvd_refl _
          · rw [hz i (by omega), Int.mul_zero]; exact Int.dvd_refl _
        · refine (g3 0).2 ((diag_x3 hd 0).2 ⟨by rw [hz 2 (Nat.le_refl _), Int.mul_zero, Int.mul_zero]; exact Int.dvd_refl _, fun i l m h1 h2 h3 => ?_⟩)
          by_cases hm : 2 ≤ m
          · rw [a m hm, Int.zero_mul]; exact Int.dvd_refl _
          · by_cases hi : 2 ≤ i
            · rw [hz i hi, Int.zero_mul, Int.mul_zero]; exact Int.dvd_refl _
            · rw [hz l (by omega), Int.mul_zero, Int.mul_zero]; exact Int.dvd_refl _
    · intro e i hi
      subst e
      by_cases hi3 : 3 ≤ i
      · exact hy3 i hi3
      have hv : dvA (M ++ [b]) (M.length + 1) (ncols M) j = 0 := by
        by_cases hjc : j < ncols M
        · exact hj'.2.2.2 (by omega) hjc
        · exact dv_big (.inr (by omega))
      refine Classical.byContradiction fun hne => ?_
      rcases (show j = 0 ∨ j = 1 ∨ j = 2 by omega) with e | e | e <;> subst e
      · have a1 := (diag_x1 hd 0).1 ((g1 0).1 (zero.2 hv))
        exact hne (Int.zero_dvd.1 (a1.2 i))
      · have a1 := (diag_x2 hd 0).1 ((g2 0).1 (zero.2 hv))
        have := Int.zero_dvd.1 (a1.2 0 i (by omega))
        have p0 := hp 0 (by omega)
        rcases Int.mul_eq_zero.1 this with h' | h'
        · exact hne h'
        · omega
      · have a1 := (diag_x3 hd 0).1 ((g3 0).1 (zero.2 hv))
        have := Int.zero_dvd.1 (a1.2 0 1 i (by omega) (by omega) (by omega))
        have p0 := hp 0 (by omega)
        have p1 := hp 1 (by omega)
        rcases Int.mul_eq_zero.1 this with h' | h'
        · exact hne h'
        · have := Int.mul_pos p0 p1; omega
  have hq : (∀ i, j ≤ i → y i = 0) → ∀ m : Int, (∀ i, d i ∣ m * y i) ↔ (k : Int) ∣ m := fun a m => by rw [← hlat]; exact l2 (f1.2 a) m
  refine ⟨f1.trans f2, hk0, fun e => ?_, fun D hD e hDl hc => ?_⟩
  · have a := f2.2 e
    have hk := hq a
    subst e
    have hfin : (k : Int) = (lastD M M.length (ncols M) j : Int) / (lastD (M ++ [b]) (M.length + 1) (ncols M) j : Int) := by
      unfold lastD
      rcases (show j = 0 ∨ j = 1 ∨ j = 2 ∨ j = 3 by omega) with e | e | e | e <;> subst e
      · rw [if_pos rfl, if_pos rfl]
        have := (hk 1).1 fun i => by rw [a i (Nat.zero_le _)]; exact Int.dvd_zero _
        have := Int.eq_one_of_dvd_one (Int.natCast_nonneg _) this
        rw [this]; rfl
      · rw [if_neg (by omega), if_neg (by omega), show 1 - 1 = 0 from rfl, e0]
        exact ord_one hd (hp 0 (by omega)) a hk (Int.natCast_nonneg _) g1
      · rw [if_neg (by omega), if_neg (by omega), show 2 - 1 = 1 from rfl, e1]
        exact ord_two hd (hp 0 (by omega)) (hp 1 (by omega)) (hz 2 (Nat.le_refl _)) a hk (Int.natCast_nonneg _) g2
      · rw [if_neg (by omega), if_neg (by omega), show 3 - 1 = 2 from rfl, e2]
        exact ord_three hd (hp 0 (by omega)) (hp 1 (by omega)) (hp 2 (by omega)) a hk (Int.natCast_nonneg _) g3
    rw [← Int.natCast_ediv] at hfin
    omega
  · have a := f2.2 e
    have hk := hq a
    have hD2 : D = diagL j fin.a := hD.uni ⟨_, _, j, fin, h.n3, hf, rfl⟩ (Eqv.refl _)
    rw [hD2, diagL_length] at hDl
    rw [hD2, ← hDl, getD_get (by rw [diagL_length]; omega)]
    have : (diagL j fin.a)[j - 1]'(by rw [diagL_length]; omega) = d (j - 1) := by simp [diagL, hdd]
    rw [this, ← hk]
    intro i
    by_cases hi : i < j
    · exact Int.dvd_mul_of_dvd_left (hd.dv i (j - 1) (by omega))
    · rw [a i (by omega), Int.mul_zero]; exact Int.dvd_zero _
end Go.Proofs.YtokjolmpdfmnbaaGreatDoor
namespace Go.Proofs.YtokjolmpdfmnbaaGreatDoor
open Go.RowKit Go.Sort
set_option maxRecDepth 100000 in
theorem herm0_any {w : World} {sa : Option Addr} {N n cap : Nat} (h : N = 0 ∨ n = 0) (hN : N ≤ 1000) (hn : n ≤ 1000) (hc : N ≤ cap) (hs : sa = none → cap = 0) : Calls Tryz.prog 43 #[.slice sa N cap, .int .i64 n] w fun e w' => (∃ sb cb, e = .returned (.slice sb 0 cb)) ∧ Ext w w' := by
  go_enter Tryz.func43, Tryz.ntmps43
  go_wp2_with fail
  go_loopw [5, 6] (fun dn idx wr => dn = .int .i64 0 ∧ idx = .int .i64 0 ∧ Ext w wr) (fun _ _ _ => 0)
  case atStart => exact ⟨by go_num, by go_num, Ext.refl _⟩
  case round =>
    obtain ⟨rfl, rfl, hE⟩ := hrel
    generalize wr = U at *
    have hcI : (0 : Int) ≤ (cap : Int) := by omega
    rcases sa with _ | ad
    · obtain rfl := hs rfl
      rcases Nat.eq_zero_or_pos n with h0 | h0
      · subst h0
        go_wp2_with fail
        go_ret
        exact ⟨⟨_, _, rfl⟩, hE⟩
      · obtain rfl : N = 0 := by omega
        have hnI : (0 : Int) < (n : Int) := by omega
        go_wp2_with fail
        go_ret
        exact ⟨⟨_, _, rfl⟩, hE⟩
    · rcases Nat.eq_zero_or_pos n with h0 | h0
      · subst h0
        go_wp2_with fail
        go_ret
        exact ⟨⟨_, _, rfl⟩, hE⟩
      · obtain rfl : N = 0 := by omega
        have hnI : (0 : Int) < (n : Int) := by omega
        go_wp2_with fail
        go_ret
        exact ⟨⟨_, _, rfl⟩, hE⟩
def Ord0Post (w : World) (x : List Int) (e : Ending) (w' : World) : Prop :=
  Ext w w' ∧ if (∃ z ∈ x, z ≠ 0) then e = .returned (.tuple #[.int .i64 0, .bool false, .int .i64 0]) else e = .returned (.tuple #[.int .i64 1, .bool true, .int .i64 0])
theorem ord0_any {x : List Int} {c : Nat} (hc : x.length = c) : anyB (fun i => decide (((x.map fun z => (z, (1 : Int))).getD i (0, 1)).1 ≠ 0)) c = decide (∃ z ∈ x, z ≠ 0) := by
  rw [Bool.eq_iff_iff, anyB_iff, decide_eq_true_eq]
  constructor
  · rintro ⟨i, hi, h⟩
    refine ⟨x[i]'(by omega), List.getElem_mem _, ?_⟩
    have := of_decide_eq_true h
    rwa [List.getD_eq_getElem?_getD, List.getElem?_map, List.getElem?_eq_getElem (by omega)] at this
  · rintro ⟨z, hz, h⟩
    obtain ⟨i, hi, rfl⟩ := List.getElem_of_mem hz
    refine ⟨i, by omega, decide_eq_true ?_⟩
    rw [List.getD_eq_getElem?_getD, List.getElem?_map, List.getElem?_eq_getElem hi]
    exact h
set_option maxRecDepth 100000 in
set_option maxHeartbeats 4000000 in
theorem Order0_any {w : World} {vm vb : Value} {M : Mx} {x : List Int} {c : Nat} (hM : MatR w vm M) (hb : RowR w vb x) (hs0 : sizeE M x = 0) (h0 : M.length = 0 ∨ x.length = 0) (hbc : x.length = c) (hL : Laid w) :
    Calls Tryz.prog 11 #[vm, vb] w (Ord0Post w x) := by
  obtain ⟨hck, hrk, hbl⟩ := sizeE_ok hs0
  obtain ⟨hl12, hn12, hRt, hent⟩ := checkM_ok hck
  obtain ⟨hb64, hbent⟩ := chkRow_ok hrk
  have hc64 : c ≤ 64 := by omega
  have hsz := Lib.hid (sized_any hM hb)
  rw [hs0] at hsz
  obtain ⟨N, hN⟩ : ∃ N, N = M.length := ⟨_, rfl⟩
  have hbig := Lib.hid (fun W (hW : Ext w W) => sbig_any (hM.ext hW) (by omega) (fun r hr => by rw [hRt r hr]; omega) (fun r hr z hz => by have := hent r hr z hz; unfold I64; omega) (hL.ext hW))
  have hnd1 : nd 1 ≤ LIM := by rw [nd_1]; unfold LIM; omega
  obtain ⟨sb, bb, ob, cb, rfl, hcb, hSb⟩ := hb
  obtain ⟨s0, hs, hy0, hy1, hy2⟩ := info_parts Tryz.infoRat
  have HSb := Lib.hid hSb
  have Hbent := Lib.hid hbent
  have HL := Lib.hid hL
  have HN := Lib.hid hN
  have Hbc := Lib.hid hbc
  have hN12 : N ≤ 12 := by omega
  have h0' : N = 0 ∨ c = 0 := by omega
  rw [hbc] at hsz hcb ⊢
  clear hM hs0 h0 hL hck hrk hbl hl12 hn12 hRt hent hb64 hbent hN hSb hbc
  go_enter Tryz.func11, Tryz.ntmps11
  go_wp2_with fail
  refine hsz.out.mono ?_
  rintro e w1 ⟨rfl, hE1⟩
  go_wp2_with fail
  refine (hbig.out w1 hE1).mono ?_
  rintro e w2 ⟨v2, ad2, rfl, hG2, hE2⟩
  have hsh : ∃ ga cap, v2 = .slice ga N cap ∧ N ≤ cap ∧ (ga = none → cap = 0) := by
    rw [HN.out]
    rcases hG2.own.2 with ⟨rfl, hz⟩ | ⟨g, cap, cur, rfl, hb, hg, hn, hm, hs, ht⟩
    · exact ⟨none, 0, by rw [hz], by omega, fun _ => rfl⟩
    · exact ⟨_, cap, rfl, hn, fun h => by cases h⟩
  obtain ⟨ga2, cap2, rfl, hcap2, hga2⟩ := hsh
  have hh := Lib.hid (herm0_any (w := w2) (n := c) h0' (by omega) (by omega) hcap2 hga2)
  have hX2 := hE1.trans hE2
  clear hbig hsz hG2 hE1 hE2 hcap2 hga2
  go_wp2_with fail
  refine hh.out.mono ?_
  rintro e w3 ⟨⟨gH, cH, rfl⟩, hE3⟩
  have hE3w := hX2.trans hE3
  clear hh hE3 hX2
  go_wp2_with (at_make; refine wpList_make_full _ rfl _ _ 93 rfl w3.heap.size 96 s0 (.agg #[.string ⟨#[]⟩, .string ⟨#[]⟩]) 2 Tryz.underlying93 hs hy0 hy1 .i64 .i64 _ _ c rfl rfl (by omega) (by omega) (by rw [hy2]; omega) (by unfold maxLen; omega) (Nat.le_refl _) ?_; intro w4 hown4 hgrow4)
  have hE4 := ext_grown hgrow4
  have hF4 := Lib.hid (frv_made hown4 (by omega))
  obtain ⟨gr, hgr⟩ : ∃ gr, gr = w3.heap.size := ⟨_, rfl⟩
  rw [← hgr] at hF4 ⊢
  have hgle : w3.heap.size ≤ gr := by omega
  clear hown4 hgrow4 hgr hs hy0 hy1 hy2
  go_wp2_with fail
  go_loopw [40] (fun idx wr => ∃ i : Nat, i ≤ c ∧ idx = .int .i64 i ∧ Hid (FrV gr wr gr (ordS x i)) ∧ Ext w3 wr) (fun idx _ => c - (intOf idx).toNat)
  case atStart => exact ⟨0, by omega, by go_num, Lib.hid (by have := hF4.out; unfold ordS; rw [List.take_zero, Hbc.out, Nat.sub_zero]; exact this), hE4⟩
  case round =>
    obtain ⟨i, hi, rfl, hF, hE⟩ := hrel
    generalize wr = X at *
    by_cases hlt : i < c
    · have hii : (i : Int) < (c : Int) := by omega
      have hix : i < x.length := by rw [Hbc.out]; exact hlt
      obtain rfl := HSb.out.addr (by rw [is_length]; omega)
      obtain ⟨z, hz⟩ : ∃ z, z = x[i] := ⟨_, rfl⟩
      have c0 := (HSb.out.ext (hE3w.trans hE)).cell i (.int .i64 z) (by rw [is_get hix, ← hz])
      have hzb := Hbent.out _ (List.getElem_mem hix)
      rw [← hz] at hzb
      have hof := Lib.hid (fOf_one (n := z) (by omega) (HL.out.ext (hE3w.trans hE)))
      have Hset := Lib.hid (show (ordS x i).set i (I z, I 1) = ordS x (i + 1) by rw [hz]; exact ordS_set x hix)
      have Hat := Lib.hid (ordS_at x hix)
      clear hzb hz
      go_wp2_with fail
      refine hof.out.mono ?_
      rintro e w5 ⟨rfl, hE5⟩
      have hF5 := hF.out.ext hE5
      obtain ⟨q0, q1⟩ := hF5.cells Hat.out
      obtain ⟨hF6, hg6, f0, f1⟩ := hF5.set i (I z, I 1)
      rw [Hset.out] at hF6
      have HF6 := Lib.hid hF6
      have hE6 := Lib.hid (ext_trans_grown (hE.trans hE5) hg6 hgle)
      simp only at q0 q1 HF6 hE6
      clear hF5 hF6 hg6 hE5 hof Hset Hat hF
      go_wp2_with fail
      go_roundw
      case rel => exact ⟨i + 1, by omega, by go_num, HF6, hE6.out⟩
      case measure => simp [intOf] <;> omega
    · have hie : i = c := by omega
      have hii : ¬ (i : Int) < (c : Int) := by omega
      have HFa := Lib.hid (show FrV gr X gr ((x.map fun z => (z, (1 : Int))).map qv) by rw [← ordS_all, Hbc.out, ← hie]; exact hF.out)
      clear hie hF hF4 hE4
      have hI1 := (show I (1 : Int) = .string ⟨#[49]⟩ by unfold I S; rw [itoa_one])
      have HI1 := Lib.hid hI1
      clear hI1
      go_wp2_with fail
      go_loopw [12, 56] (fun cv idx wr => cv = .string ⟨#[49]⟩ ∧ idx = .int .i64 0 ∧ wr = X) (fun _ idx _ => 0)
      case atStart => exact ⟨rfl, by go_num, rfl⟩
      case round =>
        obtain ⟨rfl, rfl, rfl⟩ := hrel
        have hcn := Lib.hid (contains_ratio HFa.out (by rw [List.length_map, Hbc.out]; omega))
        rw [List.length_map, Hbc.out, ord0_any Hbc.out] at hcn
        have hEw := hE3w.trans hE
        by_cases ha : ∃ z ∈ x, z ≠ 0
        · rw [decide_eq_true ha] at hcn
          have Hres := Lib.hid (fun (e : Ending) (W : World) (he : e = .returned (.tuple #[.int .i64 0, .bool false, .int .i64 0])) (hE : Ext w W) => (show Ord0Post w x e W from ⟨hE, by rw [if_pos ha]; exact he⟩))
          clear ha
          go_wp2_with fail
          refine hcn.out.mono ?_
          rintro e w20 ⟨rfl, hE20⟩
          go_wp2_with fail
          go_ret3
          exact Hres.out _ _ rfl (hEw.trans hE20)
        · rw [decide_eq_false ha] at hcn
          have Hres := Lib.hid (fun (e : Ending) (W : World) (he : e = .returned (.tuple #[.int .i64 1, .bool true, .int .i64 0])) (hE : Ext w W) => (show Ord0Post w x e W from ⟨hE, by rw [if_neg ha]; exact he⟩))
          have HLY := Lib.hid (HL.out.ext hEw)
          have hsml := Lib.hid (fun W b bx (hL : Laid W) (hbx : W.cell? ⟨bx, 0, none⟩ = some (.slice (some ⟨b, 0, none⟩) 1 1)) (hbc : W.cell? ⟨b, 0, none⟩ = some (.string ⟨#[49]⟩)) =>
            ssmall_any (w := W) (v := .slice (some ⟨bx, 0, none⟩) 1 1) (M := [[(1 : Int)]]) ⟨_, bx, 0, 1, [.slice (some ⟨b, 0, none⟩) 1 1], rfl, Nat.le_refl _, rfl, ⟨fun _ => rfl, fun i x hx => by
              have : i = 0 := by have := (List.getElem?_eq_some_iff.1 hx).1; simp at this; omega
              subst this
              simp only [List.getElem?_cons_zero, Option.some.injEq] at hx
              rw [← hx]; exact hbx⟩, fun i a bb' => by
              have : i = 0 := by simp at a; omega
              subst this
              exact ⟨_, b, 0, 1, rfl, Nat.le_refl _, ⟨fun _ => rfl, fun i x hx => by
                have : i = 0 := by have := (List.getElem?_eq_some_iff.1 hx).1; simp [ss] at this; omega
                subst this
                simp only [List.getElem_cons_zero, ss, List.map_cons, List.getElem?_cons_zero, Option.some.injEq] at hx
                rw [← hx, HI1.out]; exact hbc⟩⟩⟩ (by simp) (fun r hr => by simp at hr; subst hr; simp) (fun r hr z hz => by simp at hr; subst hr; simp at hz; subst hz; exact hnd1) hL)
          clear ha
          go_wp2_with fail
          refine hcn.out.mono ?_
          rintro e w20 ⟨rfl, hE20⟩
          have d20 : Ext w20 ((w20.alloc (.cells #[.string ⟨#[49]⟩] 94)).alloc (.cells #[.slice (some ⟨w20.heap.size, 0, none⟩) 1 1] 99)) := ((Ext.refl _).alloc _).alloc _
          have Hs20 := Lib.hid (hsml.out ((w20.alloc (.cells #[.string ⟨#[49]⟩] 94)).alloc (.cells #[.slice (some ⟨w20.heap.size, 0, none⟩) 1 1] 99)) w20.heap.size (w20.heap.size + 1) (HLY.out.ext (hE20.trans d20)) (by go_simp) (by go_simp))
          have hE21 := (hEw.trans hE20).trans d20
          clear hsml hcn d20 hE20
          go_wp2_with fail
          refine Hs20.out.mono ?_
          rintro e w21 ⟨hp, hE22⟩
          have hfin := hE21.trans hE22
          have hsm : smallM [[(1 : Int)]] = true := by decide
          rw [if_pos hsm] at hp
          obtain ⟨vr, rfl, hvr⟩ := hp
          obtain ⟨vs9, hv1, hv2, hv3⟩ := hvr
          have h90 := hv3 0 (by simp) (by rw [hv1]; simp)
          rcases hv2.2 with ⟨_, h0'⟩ | ⟨g9, c9, cur9, rfl, _, _, hc9, _⟩
          · simp at h0'
          · have hc9' := World.ownsRow.cellAt hv2 0 (by simp)
            rw [List.getElem?_eq_getElem (by rw [hv1]; simp)] at hc9'
            simp only [List.length_singleton] at hc9 hc9'
            obtain ⟨rv, hrv⟩ : ∃ rv, rv = vs9[0]'(by rw [hv1]; simp) := ⟨_, rfl⟩
            rw [← hrv] at hc9' h90
            have hc10 : w21.cell? ⟨g9, 0, none⟩ = some rv := by simpa using hc9'
            rcases h90.2 with ⟨_, h0'⟩ | ⟨g8, c8, cur8, rfl, _, _, hc8, _⟩
            · simp at h0'
            · have hc8' := World.ownsRow.cellAt h90 0 (by simp)
              simp only [List.length_singleton, List.getElem_cons_zero] at hc8 hc8'
              have hc11 : w21.cell? ⟨g8, 0, none⟩ = some (.int .i64 1) := by simpa [is] using hc8'
              clear hsm h90 hv1 hv2 hv3 hrv hc9' hc8' hE21 hE22
              go_wp2_with fail
              go_ret3
              exact Hres.out _ _ rfl hfin
end Go.Proofs.YtokjolmpdfmnbaaGreatDoor
namespace Go.Proofs.YtokjolmpdfmnbaaGreatDoor
open Go.RowKit Go.Sort
set_option maxRecDepth 100000 in
theorem group_any {w : World} {v : Value} {M : Mx} {n : Int} (hM : MatR w v M) (hn : -9223372036854775808 ≤ n ∧ n ≤ 9223372036854775807) :
    Calls Tryz.prog 57 #[v, .int .i64 n] w fun e w' => e = .returned (.int .i64 (groupE M n)) ∧ Ext w w' := by
  have hch := Lib.hid (tableCheck_any hM)
  obtain ⟨sa, gb, go, cap, vs, rfl, hcap, hvl, hS, hr⟩ := hM
  by_cases h0 : checkM M = 0
  · rw [h0] at hch
    by_cases h1 : n < 0
    · have he : groupE M n = 3 := by unfold groupE; rw [if_pos h0, if_pos (.inl h1)]
      rw [he]
      clear hS hvl hr h0 he
      go_enter Tryz.func57, Tryz.ntmps57
      go_wp2_with fail
      refine hch.out.mono ?_
      rintro e w1 ⟨rfl, hE1⟩
      go_wp2_with fail
      go_ret
      exact ⟨rfl, hE1⟩
    by_cases h2 : 12 < n
    · have he : groupE M n = 3 := by unfold groupE; rw [if_pos h0, if_pos (.inr h2)]
      rw [he]
      clear hS hvl hr h0 he
      go_enter Tryz.func57, Tryz.ntmps57
      go_wp2_with fail
      refine hch.out.mono ?_
      rintro e w1 ⟨rfl, hE1⟩
      go_wp2_with fail
      go_ret
      exact ⟨rfl, hE1⟩
    by_cases hM0 : M.length = 0
    · have he : groupE M n = 0 := by unfold groupE; rw [if_pos h0, if_neg (by omega), if_neg (by omega)]
      rw [he]
      rw [hM0] at hch ⊢
      clear hS hvl hr h0 he hM0 hcap
      go_enter Tryz.func57, Tryz.ntmps57
      go_wp2_with fail
      refine hch.out.mono ?_
      rintro e w1 ⟨rfl, hE1⟩
      go_wp2_with fail
      go_ret
      exact ⟨rfl, hE1⟩
    · have hMp : (0 : Int) < (M.length : Int) := by omega
      obtain ⟨s0, c0, rfl, hrow⟩ := ncols_row hS hvl hr (by omega)
      by_cases hl : (ncols M : Int) = n
      · have he : groupE M n = 0 := by unfold groupE; rw [if_pos h0, if_neg (by omega), if_neg (by omega)]
        rw [he]
        obtain ⟨m, hm⟩ : ∃ m, m = ncols M := ⟨_, rfl⟩
        rw [← hm] at hl hrow
        subst hl
        clear hS hvl hr h0 he hM0 hcap hm
        go_enter Tryz.func57, Tryz.ntmps57
        go_wp2_with fail
        refine hch.out.mono ?_
        rintro e w1 ⟨rfl, hE1⟩
        have hrow1 := hE1.cell hrow
        go_wp2_with fail
        go_ret
        exact ⟨rfl, hE1⟩
      · have he : groupE M n = 5 := by unfold groupE; rw [if_pos h0, if_neg (by omega), if_pos ⟨by omega, hl⟩]
        rw [he]
        have hlb : ((ncols M : Int) == n) = false := beq_eq_false_iff_ne.2 hl
        have hlb2 : ((ncols M : Int) != n) = true := by simp [bne, hlb]
        clear hS hvl hr h0 he hM0 hcap
        go_enter Tryz.func57, Tryz.ntmps57
        go_wp2_with fail
        refine hch.out.mono ?_
        rintro e w1 ⟨rfl, hE1⟩
        have hrow1 := hE1.cell hrow
        go_wp2_with fail
        go_ret
        exact ⟨rfl, hE1⟩
  · obtain ⟨q, hq⟩ : ∃ q, q = checkM M := ⟨_, rfl⟩
    have he : groupE M n = q := by unfold groupE; rw [if_neg h0, hq]
    have hqb : (q == 0) = false := beq_eq_false_iff_ne.2 (by rw [hq]; exact h0)
    have hqb2 : (q != 0) = true := by simp [bne, hqb]
    rw [he]
    rw [← hq] at hch
    clear hS hvl hr h0 he hq hcap
    go_enter Tryz.func57, Tryz.ntmps57
    go_wp2_with fail
    refine hch.out.mono ?_
    rintro e w1 ⟨rfl, hE1⟩
    go_wp2_with fail
    go_ret
    exact ⟨rfl, hE1⟩
end Go.Proofs.YtokjolmpdfmnbaaGreatDoor
