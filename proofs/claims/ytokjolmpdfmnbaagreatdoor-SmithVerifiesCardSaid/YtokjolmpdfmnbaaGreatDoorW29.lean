/- Part 29 of the proof of the claim: contracts of the functions that it reaches, and plain laws; no condition. -/
import Derived.Test.YtokjolmpdfmnbaaGreatDoorW28
import Derived.Test.YtokjolmpdfmnbaaGreatDoorW03
import Derived.Test.YtokjolmpdfmnbaaGreatDoorW27
import Derived.Test.YtokjolmpdfmnbaaGreatDoorW25
import Derived.Test.YtokjolmpdfmnbaaGreatDoorW18
import Derived.Test.YtokjolmpdfmnbaaGreatDoorW19
namespace Go.Proofs.YtokjolmpdfmnbaaGreatDoor
abbrev FM := Nat → Nat → Int
def m2 (A : FM) (i j k l : Nat) : Int := A i k * A j l - A i l * A j k
def m3 (A : FM) (i j h k l p : Nat) : Int := A i k * m2 A j h l p - A i l * m2 A j h k p + A i p * m2 A j h k l
def X1 (x : Int) (A : FM) : Prop := ∀ i k, x ∣ A i k
def X2 (x : Int) (A : FM) : Prop := ∀ i j k l, x ∣ m2 A i j k l
def X3 (x : Int) (A : FM) : Prop := ∀ i j h k l p, x ∣ m3 A i j h k l p
structure Eqv (A B : FM) : Prop where
  e1 : ∀ x, X1 x A ↔ X1 x B
  e2 : ∀ x, X2 x A ↔ X2 x B
  e3 : ∀ x, X3 x A ↔ X3 x B
theorem Eqv.refl (A : FM) : Eqv A A := ⟨fun _ => Iff.rfl, fun _ => Iff.rfl, fun _ => Iff.rfl⟩
theorem Eqv.symm {A B : FM} (h : Eqv A B) : Eqv B A := ⟨fun x => (h.e1 x).symm, fun x => (h.e2 x).symm, fun x => (h.e3 x).symm⟩
theorem Eqv.trans {A B C : FM} (h : Eqv A B) (g : Eqv B C) : Eqv A C := ⟨fun x => (h.e1 x).trans (g.e1 x), fun x => (h.e2 x).trans (g.e2 x), fun x => (h.e3 x).trans (g.e3 x)⟩
def tr (A : FM) : FM := fun i k => A k i
theorem m2_tr (A : FM) (i j k l : Nat) : m2 (tr A) i j k l = m2 A k l i j := by unfold m2 tr; rw [Int.mul_comm (A l i)]
theorem m3_tr (A : FM) (i j h k l p : Nat) : m3 (tr A) i j h k l p = m3 A k l p i j h := by
  unfold m3; rw [m2_tr, m2_tr, m2_tr]; unfold m2 tr
  generalize A k i = a1; generalize A l i = a2; generalize A p i = a3; generalize A k j = b1; generalize A l j = b2; generalize A p j = b3; generalize A k h = c1; generalize A l h = c2; generalize A p h = c3
  grind
theorem eqv_tr (A : FM) : Eqv A (tr A) :=
  ⟨fun _ => ⟨fun h i k => h k i, fun h i k => h k i⟩, fun _ => ⟨fun h i j k l => by rw [m2_tr]; exact h _ _ _ _, fun h i j k l => by have := h k l i j; rwa [m2_tr] at this⟩,
   fun _ => ⟨fun h i j m k l p => by rw [m3_tr]; exact h _ _ _ _ _ _, fun h i j m k l p => by have := h k l p i j m; rwa [m3_tr] at this⟩⟩
theorem shear2 {t : Nat} {f : Nat → Int} {A B : FM} (h : ∀ i k, B i k = A i k - f i * A t k) (i j k l : Nat) : m2 B i j k l = m2 A i j k l - f j * m2 A i t k l - f i * m2 A t j k l := by
  unfold m2; rw [h, h, h, h]
  generalize A i k = a1; generalize A i l = a2; generalize A j k = b1; generalize A j l = b2; generalize A t k = c1; generalize A t l = c2; generalize f i = u; generalize f j = v
  grind
theorem shear3 {t : Nat} {f : Nat → Int} {A B : FM} (h : ∀ i k, B i k = A i k - f i * A t k) (i j m k l p : Nat) : m3 B i j m k l p = m3 A i j m k l p - f m * m3 A i j t k l p - f j * m3 A i t m k l p - f i * m3 A t j m k l p := by
  unfold m3 m2; rw [h i k, h i l, h i p, h j k, h j l, h j p, h m k, h m l, h m p]
  generalize A i k = a1; generalize A i l = a2; generalize A i p = a3; generalize A j k = b1; generalize A j l = b2; generalize A j p = b3; generalize A m k = d1; generalize A m l = d2; generalize A m p = d3
  generalize A t k = c1; generalize A t l = c2; generalize A t p = c3; generalize f i = u; generalize f j = v; generalize f m = w
  grind
theorem dvd_sm {x a b c : Int} (h1 : x ∣ a) (h2 : x ∣ b) : x ∣ a - c * b := Int.dvd_sub h1 (Int.dvd_trans h2 (Int.dvd_mul_left c b))
theorem shear_one {t : Nat} {f : Nat → Int} {A B : FM} (h : ∀ i k, B i k = A i k - f i * A t k) (x : Int) : (X1 x A → X1 x B) ∧ (X2 x A → X2 x B) ∧ (X3 x A → X3 x B) :=
  ⟨fun ha i k => by rw [h]; exact dvd_sm (ha _ _) (ha _ _), fun ha i j k l => by rw [shear2 h]; exact dvd_sm (dvd_sm (ha _ _ _ _) (ha _ _ _ _)) (ha _ _ _ _),
   fun ha i j m k l p => by rw [shear3 h]; exact dvd_sm (dvd_sm (dvd_sm (ha _ _ _ _ _ _) (ha _ _ _ _ _ _)) (ha _ _ _ _ _ _)) (ha _ _ _ _ _ _)⟩
theorem eqv_shear {t : Nat} {f : Nat → Int} {A B : FM} (h0 : f t = 0) (h : ∀ i k, B i k = A i k - f i * A t k) : Eqv A B := by
  have h2 : ∀ i k, A i k = B i k - (fun i => -f i) i * B t k := fun i k => by
    rw [h i k, h t k, h0]
    simp only [Int.zero_mul, Int.sub_zero, Int.neg_mul]
    omega
  exact ⟨fun x => ⟨(shear_one h x).1, (shear_one h2 x).1⟩, fun x => ⟨(shear_one h x).2.1, (shear_one h2 x).2.1⟩, fun x => ⟨(shear_one h x).2.2, (shear_one h2 x).2.2⟩⟩
theorem eqv_cshear {t : Nat} {g : Nat → Int} {A B : FM} (h0 : g t = 0) (h : ∀ i k, B i k = A i k - g k * A i t) : Eqv A B :=
  ((eqv_tr A).trans (eqv_shear (A := tr A) (B := tr B) (f := g) h0 fun i k => h k i)).trans (eqv_tr B).symm
theorem eqv_perm {σ τ : Nat → Nat} {A B : FM} (hs : ∀ i, σ (σ i) = i) (ht : ∀ i, τ (τ i) = i) (h : ∀ i k, B i k = A (σ i) (τ k)) : Eqv A B := by
  have h2 : ∀ i k, A i k = B (σ i) (τ k) := fun i k => by rw [h, hs, ht]
  have go : ∀ {A B : FM}, (∀ i k, B i k = A (σ i) (τ k)) → ∀ x, (X1 x A → X1 x B) ∧ (X2 x A → X2 x B) ∧ (X3 x A → X3 x B) := fun h x =>
    ⟨fun ha i k => by rw [h]; exact ha _ _, fun ha i j k l => by have := ha (σ i) (σ j) (τ k) (τ l); unfold m2 at this ⊢; rw [h, h, h, h]; exact this,
     fun ha i j m k l p => by have := ha (σ i) (σ j) (σ m) (τ k) (τ l) (τ p); unfold m3 m2 at this ⊢; simp only [h]; exact this⟩
  exact ⟨fun x => ⟨(go h x).1, (go h2 x).1⟩, fun x => ⟨(go h x).2.1, (go h2 x).2.1⟩, fun x => ⟨(go h x).2.2, (go h2 x).2.2⟩⟩
theorem eqv_neg {e : Nat → Int} {A B : FM} (he : ∀ i, e i * e i = 1) (h : ∀ i k, B i k = e i * A i k) : Eqv A B := by
  have h2 : ∀ i k, A i k = e i * B i k := fun i k => by rw [h, ← Int.mul_assoc, he, Int.one_mul]
  have go : ∀ {A B : FM}, (∀ i k, B i k = e i * A i k) → ∀ x, (X1 x A → X1 x B) ∧ (X2 x A → X2 x B) ∧ (X3 x A → X3 x B) := fun {A B} h x => by
    have q2 : ∀ i j k l, m2 B i j k l = e i * e j * m2 A i j k l := fun i j k l => by unfold m2; rw [h, h, h, h]; grind
    have q3 : ∀ i j m k l p, m3 B i j m k l p = e i * (e j * e m) * m3 A i j m k l p := fun i j m k l p => by unfold m3; rw [q2, q2, q2, h, h, h]; grind
    exact ⟨fun ha i k => by rw [h]; exact Int.dvd_trans (ha i k) (Int.dvd_mul_left _ _), fun ha i j k l => by rw [q2]; exact Int.dvd_trans (ha i j k l) (Int.dvd_mul_left _ _), fun ha i j m k l p => by rw [q3]; exact Int.dvd_trans (ha i j m k l p) (Int.dvd_mul_left _ _)⟩
  exact ⟨fun x => ⟨(go h x).1, (go h2 x).1⟩, fun x => ⟨(go h x).2.1, (go h2 x).2.1⟩, fun x => ⟨(go h x).2.2, (go h2 x).2.2⟩⟩
theorem sx_inv (a b x : Nat) : sx a b (sx a b x) = x := by unfold sx; repeat' split
                                                           all_goals omega
theorem eqv_swap {n c t i k : Nat} {s : Dg} (h : ShD n c s) (ht : t < n) (hi : i < n) (htc : t < c) (hk : k < c) : Eqv (eM s.a) (eM (swapD t i k s).a) :=
  eqv_perm (sx_inv t i) (sx_inv t k) (swap_parts h ht hi htc hk).2.1
theorem eqv_clear {n c t : Nat} {s : Dg} (h : ShD n c s) (ht : t < n) (htc : t < c) : Eqv (eM s.a) (eM (clearD n c t s).a) := by
  obtain ⟨_, h2, _, _⟩ := clear_parts h ht htc
  have e1 : Eqv (eM s.a) (fun i k => if t < i then eM s.a i k - qR s t i * eM s.a t k else eM s.a i k) := by
    refine eqv_shear (t := t) (f := fun i => if t < i then qR s t i else 0) (if_neg (by omega)) fun i k => ?_
    split
    · rfl
    · simp
  refine e1.trans (eqv_cshear (t := t) (g := fun k => if t < k then qC s t k else 0) (if_neg (by omega)) fun i k => ?_)
  rw [h2]
  by_cases hk : t < k
  · rw [if_pos hk, if_pos hk]
  · rw [if_neg hk, if_neg hk]; simp
theorem eqv_add {n c t i : Nat} {s : Dg} (h : ShD n c s) (ht : t < n) (hi : i < n) (hne : t ≠ i) : Eqv (eM s.a) (eM (addD t i s).a) := by
  obtain ⟨_, h2, _, _⟩ := add_parts h ht hi
  refine eqv_shear (t := i) (f := fun j => if j = t then -1 else 0) (if_neg (Ne.symm hne)) fun j k => ?_
  rw [h2]
  split
  · rename_i e; rw [e]; omega
  · simp
theorem eqv_pos {n c t : Nat} {s : Dg} (h : ShD n c s) (ht : t < n) : Eqv (eM s.a) (eM (posD t s).a) := by
  obtain ⟨_, h2, _, _⟩ := pos_parts h ht
  refine eqv_neg (e := fun j => if j = t ∧ eM s.a t t < 0 then -1 else 1) (fun i => by split <;> rfl) fun j k => ?_
  rw [h2]
  split
  · rename_i e; rw [e.1]; omega
  · simp
def Dv (t : Nat) (A : FM) : Prop := ∀ i, i < t → 0 < A i i ∧ ∀ x y, i ≤ x → i ≤ y → A i i ∣ A x y
theorem dv_swap {n c t i k : Nat} {s : Dg} (h : InvD n c t s) (hd : Dv t (eM s.a)) (hi0 : t ≤ i) (hi : i < n) (hk0 : t ≤ k) (hk : k < c) : Dv t (eM (swapD t i k s).a) := by
  obtain ⟨_, h2, _, _⟩ := swap_parts h.sh (show t < n by omega) hi (show t < c by omega) hk
  obtain ⟨_, hdg⟩ := h.swap hi0 hi hk0 hk
  intro j hj
  rw [hdg j hj]
  refine ⟨(hd j hj).1, fun x y hx hy => ?_⟩
  rw [h2]
  refine (hd j hj).2 _ _ ?_ ?_
  · by_cases hxt : x < t
    · rw [sx_lt hi0 hxt]; exact hx
    · have := sx_ge hi0 (show t ≤ x by omega); omega
  · by_cases hyt : y < t
    · rw [sx_lt hk0 hyt]; exact hy
    · have := sx_ge hk0 (show t ≤ y by omega); omega
theorem dv_clear {n c t : Nat} {s : Dg} (h : InvD n c t s) (hd : Dv t (eM s.a)) (ht : t < n) (htc : t < c) : Dv t (eM (clearD n c t s).a) := by
  obtain ⟨_, h2, _, _⟩ := clear_parts h.sh ht htc
  obtain ⟨_, hdg⟩ := h.clear ht htc
  intro j hj
  rw [hdg j hj]
  refine ⟨(hd j hj).1, fun x y hx hy => ?_⟩
  have q := (hd j hj).2
  have r : eM s.a j j ∣ (if t < x then eM s.a x y - qR s t x * eM s.a t y else eM s.a x y) := by
    split
    · exact dvd_sm (q x y hx hy) (q t y (by omega) hy)
    · exact q x y hx hy
  have r2 : eM s.a j j ∣ (if t < x then eM s.a x t - qR s t x * eM s.a t t else eM s.a x t) := by
    split
    · exact dvd_sm (q x t hx (by omega)) (q t t (by omega) (by omega))
    · exact q x t hx (by omega)
  rw [h2]
  by_cases hy2 : t < y
  · rw [if_pos hy2]; exact dvd_sm r r2
  · rw [if_neg hy2, Int.sub_zero]; exact r
theorem dv_add {n c t i : Nat} {s : Dg} (h : InvD n c t s) (hd : Dv t (eM s.a)) (ht : t < n) (hi0 : t < i) (hi : i < n) : Dv t (eM (addD t i s).a) := by
  obtain ⟨_, h2, _, _⟩ := add_parts h.sh ht hi
  obtain ⟨_, hdg⟩ := h.add ht hi0 hi
  intro j hj
  rw [hdg j hj]
  refine ⟨(hd j hj).1, fun x y hx hy => ?_⟩
  have q := (hd j hj).2
  rw [h2]
  split
  · exact Int.dvd_add (q t y (by omega) hy) (q i y (by omega) hy)
  · exact q x y hx hy
theorem dv_pos {n c t : Nat} {s : Dg} (h : InvD n c t s) (hd : Dv t (eM s.a)) (ht : t < n) (h1 : ∀ x, t < x → eM s.a x t = 0) (h2 : ∀ y, t < y → eM s.a t y = 0) (hne : eM s.a t t ≠ 0) (h3 : ∀ x y, t < x → t < y → eM s.a t t ∣ eM s.a x y) : Dv (t + 1) (eM (posD t s).a) := by
  obtain ⟨_, k2, _, _⟩ := pos_parts h.sh ht
  have sg : ∀ x y d, d ∣ eM s.a x y → d ∣ eM (posD t s).a x y := fun x y d hd => by
    rw [k2]
    split
    · rename_i e; rw [e.1] at hd; exact Int.dvd_neg.2 hd
    · exact hd
  intro j hj
  by_cases e : j = t
  · subst e
    have hv : eM (posD j s).a j j = if eM s.a j j < 0 then -eM s.a j j else eM s.a j j := by
      rw [k2]
      by_cases hn : eM s.a j j < 0
      · rw [if_pos ⟨rfl, hn⟩, if_pos hn]
      · rw [if_neg (fun h => hn h.2), if_neg hn]
    have hall : ∀ x y, j ≤ x → j ≤ y → eM s.a j j ∣ eM s.a x y := fun x y hx hy => by
      by_cases hx2 : x = j
      · subst hx2
        by_cases hy2 : y = x
        · subst hy2; exact Int.dvd_refl _
        · rw [h2 y (by omega)]; exact Int.dvd_zero _
      · by_cases hy2 : y = j
        · subst hy2; rw [h1 x (by omega)]; exact Int.dvd_zero _
        · exact h3 x y (by omega) (by omega)
    constructor
    · rw [hv]; split <;> omega
    · intro x y hx hy
      refine sg x y _ ?_
      rw [hv]
      split
      · exact Int.neg_dvd.2 (hall x y hx hy)
      · exact hall x y hx hy
  · obtain ⟨a, b⟩ := hd j (by omega)
    have hv : eM (posD t s).a j j = eM s.a j j := by rw [k2, if_neg (fun h => e h.1)]
    rw [hv]
    exact ⟨a, fun x y hx hy => sg x y _ (b x y hx hy)⟩
theorem fmod_dvd {a p : Int} (h : a.fmod p = 0) : p ∣ a := ⟨a.fdiv p, by have := fmod_eq a p; omega⟩
structure FinD (n c : Nat) (A : FM) (rank : Nat) (s : Dg) : Prop where
  inv : InvD n c rank s
  rn : rank ≤ n
  rc : rank ≤ c
  zero : ∀ i k, rank ≤ i → rank ≤ k → eM s.a i k = 0
  dv : Dv rank (eM s.a)
  eqv : Eqv A (eM s.a)
theorem runD_fin {E n c : Nat} {A : FM} : ∀ (f t : Nat) (s : Dg) {rank : Nat} {fin : Dg}, runD E n c f t s = some (rank, fin) → InvD n c t s → Dv t (eM s.a) → t ≤ n → t ≤ c → Eqv A (eM s.a) → FinD n c A rank fin ∧ bddD E fin = true
  | 0, _, _, _, _, h, _, _, _, _, _ => by cases h
  | f + 1, t, s, rank, fin, h, hv, hd, htn, htc, he => by
    rw [runD] at h
    split at h
    · rename_i hb
      have hrn := stepD_rnd (t := t) hv.sh
      generalize hst : stepD n c t s = st at hrn h
      rcases hrn with h0 | ⟨i, k, hp, hu⟩ | ⟨i, k, q, y, hp, h1, h2, hj, hj1, hy, hy1, hbad⟩ | ⟨i, k, hp, h1, h2, h3⟩
      · injection h with h; injection h with h4 h5
        subst h4; subst h5
        refine ⟨⟨hv, htn, htc, fun i k hi hk => ?_, hd, he⟩, hb⟩
        by_cases hin : i < n
        · by_cases hkc : k < c
          · exact h0 i k hi hin hk hkc
          · exact el_col hv.sh.ra (by omega) _
        · exact el_row (by have := hv.sh.la; omega) _
      all_goals
        have i0 := hp.i0
        have i1 := hp.i1
        have k0 := hp.k0
        have k1 := hp.k1
        have ht : t < n := by omega
        have htc' : t < c := by omega
        obtain ⟨hv1, _⟩ := hv.swap i0 i1 k0 k1
        have he1 := he.trans (eqv_swap hv.sh ht i1 htc' k1)
        have hd1 := dv_swap hv hd i0 i1 k0 k1
        have hne : eM (swapD t i k s).a t t ≠ 0 := by rw [hp.piv hv.sh]; exact hp.ne
        obtain ⟨hv2, _⟩ := hv1.clear ht htc'
        have he2 := he1.trans (eqv_clear hv1.sh ht htc')
        have hd2 := dv_clear hv1 hd1 ht htc'
      · exact runD_fin f t _ h hv2 hd2 htn htc he2
      · obtain ⟨hv3, _⟩ := hv2.add ht hj hj1
        exact runD_fin f t _ h hv3 (dv_add hv2 hd2 ht hj hj1) htn htc (he2.trans (eqv_add hv2.sh ht hj1 (by omega)))
      · have z1 := zcol hv1.sh ht htc' hne h1
        have z2 := zrow hv1.sh ht htc' hne h2
        have hcp := clear_piv hv1.sh ht htc'
        obtain ⟨hv3, _⟩ := hv2.posn ht z1 z2
        refine runD_fin f (t + 1) _ h hv3 (dv_pos hv2 hd2 ht z1 z2 (by rw [hcp]; exact hne) fun x y hx hy => ?_) (by omega) (by omega) (he2.trans (eqv_pos hv2.sh ht))
        by_cases hxn : x < n
        · by_cases hyc : y < c
          · exact fmod_dvd (h3 x y hx hxn hy hyc)
          · have h9 := el_col hv2.sh.ra (show c ≤ y by omega) x
            rw [h9]; exact Int.dvd_zero _
        · have h9 := el_row (A := (clearD n c t (swapD t i k s)).a) (i := x) (by have := hv2.sh.la; omega) y
          rw [h9]; exact Int.dvd_zero _
    · cases h
def dl : FM := fun i k => if i = k then 1 else 0
structure Dia (A : FM) (d : Nat → Int) : Prop where
  el : ∀ i k, A i k = if i = k then d i else 0
  nn : ∀ i, 0 ≤ d i
  dv : ∀ i j, i ≤ j → d i ∣ d j
  far : ∀ i, 3 ≤ i → d i = 0
theorem Dia.m2e {A : FM} {d : Nat → Int} (h : Dia A d) (i j k l : Nat) : m2 A i j k l = d i * d j * m2 dl i j k l := by
  have e : ∀ i k, A i k = d i * dl i k := fun i k => by rw [h.el]; unfold dl; split <;> simp
  unfold m2; rw [e, e, e, e]; grind
theorem Dia.m3e {A : FM} {d : Nat → Int} (h : Dia A d) (i j m k l p : Nat) : m3 A i j m k l p = d i * (d j * d m) * m3 dl i j m k l p := by
  have e : ∀ i k, A i k = d i * dl i k := fun i k => by rw [h.el]; unfold dl; split <;> simp
  unfold m3; rw [h.m2e, h.m2e, h.m2e, e, e, e]; grind
theorem Dia.x1 {A : FM} {d : Nat → Int} (h : Dia A d) (x : Int) : X1 x A ↔ x ∣ d 0 := by
  constructor
  · intro hx; have := hx 0 0; rwa [h.el, if_pos rfl] at this
  · intro hx i k
    rw [h.el]
    split
    · exact Int.dvd_trans hx (h.dv 0 i (by omega))
    · exact Int.dvd_zero _
theorem Dia.x2 {A : FM} {d : Nat → Int} (h : Dia A d) (x : Int) : X2 x A ↔ x ∣ d 0 * d 1 := by
  constructor
  · intro hx
    have := hx 0 1 0 1
    rw [h.m2e] at this
    simpa [m2, dl] using this
  · intro hx i j k l
    rw [h.m2e]
    by_cases e : i = j
    · subst e
      rw [show m2 dl i i k l = 0 by unfold m2; rw [Int.mul_comm (dl i l)]; omega, Int.mul_zero]
      exact Int.dvd_zero _
    · refine Int.dvd_trans hx (Int.dvd_trans ?_ (Int.dvd_mul_right _ _))
      rcases Nat.lt_or_gt_of_ne e with e | e
      · exact Int.mul_dvd_mul (h.dv 0 i (by omega)) (h.dv 1 j (by omega))
      · rw [Int.mul_comm (d i)]; exact Int.mul_dvd_mul (h.dv 0 j (by omega)) (h.dv 1 i (by omega))
theorem m3_e12 (A : FM) (i m k l p : Nat) : m3 A i i m k l p = 0 := by unfold m3 m2; grind
theorem m3_e23 (A : FM) (i m k l p : Nat) : m3 A i m m k l p = 0 := by unfold m3 m2; grind
theorem m3_e13 (A : FM) (i m k l p : Nat) : m3 A i m i k l p = 0 := by unfold m3 m2; grind
theorem Dia.x3 {A : FM} {d : Nat → Int} (h : Dia A d) (x : Int) : X3 x A ↔ x ∣ d 0 * (d 1 * d 2) := by
  constructor
  · intro hx
    have := hx 0 1 2 0 1 2
    rw [h.m3e] at this
    simpa [m3, m2, dl] using this
  · intro hx i j m k l p
    rw [h.m3e]
    by_cases e1 : i = j
    · subst e1; rw [m3_e12, Int.mul_zero]; exact Int.dvd_zero _
    by_cases e2 : j = m
    · subst e2; rw [m3_e23, Int.mul_zero]; exact Int.dvd_zero _
    by_cases e3 : i = m
    · subst e3; rw [m3_e13, Int.mul_zero]; exact Int.dvd_zero _
    by_cases hi : 3 ≤ i
    · rw [h.far i hi, Int.zero_mul, Int.zero_mul]; exact Int.dvd_zero _
    by_cases hj : 3 ≤ j
    · rw [h.far j hj, Int.zero_mul, Int.mul_zero, Int.zero_mul]; exact Int.dvd_zero _
    by_cases hm : 3 ≤ m
    · rw [h.far m hm, Int.mul_zero, Int.mul_zero, Int.zero_mul]; exact Int.dvd_zero _
    refine Int.dvd_trans hx (Int.dvd_trans ?_ (Int.dvd_mul_right _ _))
    have h3 : d i * (d j * d m) = d 0 * (d 1 * d 2) := by
      rcases (show (i = 0 ∧ j = 1 ∧ m = 2) ∨ (i = 0 ∧ j = 2 ∧ m = 1) ∨ (i = 1 ∧ j = 0 ∧ m = 2) ∨ (i = 1 ∧ j = 2 ∧ m = 0) ∨ (i = 2 ∧ j = 0 ∧ m = 1) ∨ (i = 2 ∧ j = 1 ∧ m = 0) by omega) with ⟨rfl, rfl, rfl⟩ | ⟨rfl, rfl, rfl⟩ | ⟨rfl, rfl, rfl⟩ | ⟨rfl, rfl, rfl⟩ | ⟨rfl, rfl, rfl⟩ | ⟨rfl, rfl, rfl⟩ <;> grind
    rw [h3]; exact Int.dvd_refl _
theorem FinD.dia {n c rank : Nat} {A : FM} {s : Dg} (h : FinD n c A rank s) (hn : n ≤ 3) : Dia (eM s.a) (fun i => eM s.a i i) ∧ (∀ i, i < rank → 0 < eM s.a i i) ∧ (∀ i, rank ≤ i → eM s.a i i = 0) := by
  have h0 : ∀ i, rank ≤ i → eM s.a i i = 0 := fun i hi => h.zero i i hi hi
  refine ⟨⟨fun i k => ?_, fun i => ?_, fun i j hij => ?_, fun i hi => h0 i (by have := h.rn; omega)⟩, fun i hi => (h.dv i hi).1, h0⟩
  · split
    · rename_i e; rw [e]
    · rename_i e
      by_cases ho : i < rank ∨ k < rank
      · exact h.inv.zo i k e ho
      · exact h.zero i k (by omega) (by omega)
  · rcases Nat.lt_or_ge i rank with hi | hi
    · exact Int.le_of_lt (h.dv i hi).1
    · rw [h0 i hi]; exact Int.le_refl _
  · rcases Nat.lt_or_ge i rank with hi | hi
    · exact (h.dv i hi).2 j j hij hij
    · rw [h0 j (by omega)]; exact Int.dvd_zero _
theorem eq_of_dvds {a b : Int} (ha : 0 ≤ a) (hb : 0 ≤ b) (h : ∀ x, x ∣ a ↔ x ∣ b) : a = b := Int.dvd_antisymm ha hb ((h a).1 (Int.dvd_refl a)) ((h b).2 (Int.dvd_refl b))
theorem dia_uni {A B : FM} {d e : Nat → Int} (hA : Dia A d) (hB : Dia B e) (h : Eqv A B) : ∀ i, d i = e i := by
  have h0 : d 0 = e 0 := eq_of_dvds (hA.nn 0) (hB.nn 0) fun x => by rw [← hA.x1, ← hB.x1]; exact h.e1 x
  have h1 : d 0 * d 1 = e 0 * e 1 := eq_of_dvds (Int.mul_nonneg (hA.nn 0) (hA.nn 1)) (Int.mul_nonneg (hB.nn 0) (hB.nn 1)) fun x => by rw [← hA.x2, ← hB.x2]; exact h.e2 x
  have h2 : d 0 * (d 1 * d 2) = e 0 * (e 1 * e 2) := eq_of_dvds (Int.mul_nonneg (hA.nn 0) (Int.mul_nonneg (hA.nn 1) (hA.nn 2))) (Int.mul_nonneg (hB.nn 0) (Int.mul_nonneg (hB.nn 1) (hB.nn 2))) fun x => by rw [← hA.x3, ← hB.x3]; exact h.e3 x
  have z : ∀ {A : FM} {d : Nat → Int}, Dia A d → ∀ i j, i ≤ j → d i = 0 → d j = 0 := fun h i j hij h0 => by
    have := h.dv i j hij; rw [h0] at this; exact Int.zero_dvd.1 this
  have hd1 : d 1 = e 1 := by
    by_cases c0 : d 0 = 0
    · rw [z hA 0 1 (by omega) c0, z hB 0 1 (by omega) (by rw [← h0]; exact c0)]
    · rw [← h0] at h1; exact Int.eq_of_mul_eq_mul_left c0 h1
  have hd2 : d 2 = e 2 := by
    by_cases c1 : d 1 = 0
    · rw [z hA 1 2 (by omega) c1, z hB 1 2 (by omega) (by rw [← hd1]; exact c1)]
    · have c0 : d 0 ≠ 0 := fun c => c1 (z hA 0 1 (by omega) c)
      rw [← h0, ← hd1] at h2
      exact Int.eq_of_mul_eq_mul_left c1 (Int.eq_of_mul_eq_mul_left c0 h2)
  intro i
  by_cases hi : 3 ≤ i
  · rw [hA.far i hi, hB.far i hi]
  · rcases (show i = 0 ∨ i = 1 ∨ i = 2 by omega) with rfl | rfl | rfl
    · exact h0
    · exact hd1
    · exact hd2
end Go.Proofs.YtokjolmpdfmnbaaGreatDoor
namespace Go.Proofs.YtokjolmpdfmnbaaGreatDoor
theorem rs_lt (a : Int) {p : Int} (hp : p ≠ 0) : (a.fmod p).natAbs < p.natAbs := by have := rs_fmod a hp; unfold Rs at this; omega
theorem clear0_b {n c E : Nat} {s : Dg} (h : ShD n c s) (hn : 0 < n) (hc : 0 < c) (hE : 2 ≤ E) (hp : eM s.a 0 0 ≠ 0) (ha : Bme E s.a) : Bme (2 * E + 2) (clearD n c 0 s).a := by
  intro x y
  rw [(clear_parts h hn hc).2.1]
  have hq : (qC s 0 y * eM s.a 0 0).natAbs ≤ (eM s.a 0 y).natAbs + (eM s.a 0 0).natAbs := by
    have h1 := rs_fmod (eM s.a 0 y) hp
    have e := fmod_eq (eM s.a 0 y) (eM s.a 0 0)
    rw [Int.mul_comm] at e
    unfold qC
    unfold Rs at h1
    omega
  obtain ⟨R, hR⟩ : ∃ R, R = if 0 < x then eM s.a x 0 - qR s 0 x * eM s.a 0 0 else eM s.a x 0 := ⟨_, rfl⟩
  have hRb : R.natAbs ≤ (eM s.a 0 0).natAbs := by
    rw [hR]
    split
    · have h1 := rs_fmod (eM s.a x 0) hp
      have e := fmod_eq (eM s.a x 0) (eM s.a 0 0)
      rw [Int.mul_comm] at e
      unfold qR
      unfold Rs at h1
      omega
    · rw [show x = 0 by omega]; exact Nat.le_refl _
  rw [← hR]
  have h2 : (qC s 0 y * R).natAbs ≤ (eM s.a 0 y).natAbs + (eM s.a 0 0).natAbs := by
    rw [Int.natAbs_mul] at hq ⊢
    exact Nat.le_trans (Nat.mul_le_mul_left _ hRb) hq
  have h3 : (qR s 0 x * eM s.a 0 y).natAbs ≤ 2 ^ (E + E) := by
    rw [Int.natAbs_mul, ← pw1]; exact Nat.mul_le_mul (Nat.le_of_lt (q_b ha hp)) (Nat.le_of_lt (ha _ _))
  have h4 := ha x y
  have h5 := ha 0 y
  have h6 := ha 0 0
  have e1 : 2 ^ (2 * E + 2) = 4 * 2 ^ (E + E) := by rw [show 2 * E + 2 = (E + E) + 1 + 1 by omega, pwS, pwS]; omega
  have e2 : 2 ^ (E + E) = 2 ^ E * 2 ^ E := (pw1 E E).symm
  have e3 : 4 ≤ 2 ^ E := by
    have : (2 : Nat) ^ 2 ≤ 2 ^ E := Nat.pow_le_pow_right (by omega) hE
    simpa using this
  have e4 : 4 * 2 ^ E ≤ 2 ^ E * 2 ^ E := Nat.mul_le_mul_right _ e3
  rw [e1]
  rw [← e2] at e4
  generalize qC s 0 y * R = u at *
  generalize qR s 0 x * eM s.a 0 y = v at *
  split <;> split <;> omega
theorem phase0 {n c G' Et : Nat} (hF : 5120 ≤ Et) (hE2 : G' ≤ Et) (K : ∀ s, InvD n c 1 s → Bme 5120 s.a → Bme G' s.l → Bme G' s.r → OkD Et n c 1 s) :
    ∀ j : Nat, (∀ (L E G : Nat) (s : Dg), InvD n c 0 s → (∃ x y, eM s.a x y ≠ 0 ∧ (eM s.a x y).natAbs ≤ L) → L ≤ 9 → 2 * L ≤ j → 2 ≤ E → E + 3 ≤ 10 * 2 ^ (9 - L) → Bme E s.a → Bme G s.l → Bme G s.r → G + j * 5122 ≤ G' → OkD Et n c 0 s)
      ∧ (∀ (P E G : Nat) (s : Dg), InvD n c 0 s → eM s.a 0 0 ≠ 0 → (eM s.a 0 0).natAbs = P → (∀ x, 0 < x → eM s.a x 0 = 0) → (∃ y, 0 < y ∧ y < c ∧ (eM s.a 0 y).fmod (eM s.a 0 0) ≠ 0) → P ≤ 9 → 2 * P ≤ j + 1 → 2 ≤ E → E + 3 ≤ 10 * 2 ^ (10 - P) → Bme E s.a → Bme G s.l → Bme G s.r → G + j * 5122 ≤ G' → OkD Et n c 0 s)
  | 0 => ⟨fun L E G s _ ⟨x, y, h0, h1⟩ _ h2 _ _ _ _ _ _ => by omega, fun P E G s _ h0 h1 _ _ _ h2 _ _ _ _ _ _ => by omega⟩
  | j + 1 => by
    obtain ⟨ih1, ih2⟩ := phase0 hF hE2 K j
    have gen : ∀ (L E G : Nat) (s : Dg), InvD n c 0 s → (∃ x y, eM s.a x y ≠ 0 ∧ (eM s.a x y).natAbs ≤ L) → L ≤ 9 → 2 * L ≤ j + 1 → 2 ≤ E → E + 3 ≤ 10 * 2 ^ (9 - L) → Bme E s.a → Bme G s.l → Bme G s.r → G + (j + 1) * 5122 ≤ G' → OkD Et n c 0 s := by
      rintro L E G s h ⟨x0, y0, hx0, hx1⟩ hL9 hL hE2' hE ha hl hr hG
      have hG2 : G + 5122 + j * 5122 ≤ G' := by omega
      have hrn := stepD_rnd (t := 0) h.sh
      have hbE : ∀ b : Nat, 1 ≤ b → b ≤ L → E + 3 ≤ 10 * 2 ^ (9 - b) := fun b _ hb2 => by
        have : 2 ^ (9 - L) ≤ 2 ^ (9 - b) := Nat.pow_le_pow_right (by omega) (by omega)
        omega
      have hEb : E + 3 ≤ 2560 := by
        have := hbE 1 (by omega) (by omega)
        simpa using this
      have hbd : bddD Et s = true := bdd_of ha hl hr (by omega) (by omega)
      generalize hst : stepD n c 0 s = st at hrn
      rcases hrn with h0 | ⟨i, k, hp, hu⟩ | ⟨i, k, q, y, hp, h1, h2, hj, hj1, hy, hy1, hbad⟩ | ⟨i, k, hp, h1, h2, h3⟩
      · exact ok_stop hbd hst
      all_goals
        have i0 := hp.i0
        have i1 := hp.i1
        have k0 := hp.k0
        have k1 := hp.k1
        have ht : 0 < n := by omega
        have htc : 0 < c := by omega
        obtain ⟨hv1, _⟩ := h.swap i0 i1 k0 k1
        obtain ⟨hl1, hr1⟩ := lr_swap h.sh ht i1 htc k1 hl hr
        have hpe := hp.piv h.sh
        have hne : eM (swapD 0 i k s).a 0 0 ≠ 0 := by rw [hpe]; exact hp.ne
        have hpL : (eM s.a i k).natAbs ≤ L := by
          rcases hp.any h.sh (Nat.zero_le x0) (Nat.zero_le y0) with a | a
          · exact absurd a hx0
          · have := a.1; omega
        have ha1 : Bme E (swapD 0 i k s).a := fun x y => by rw [(swap_parts h.sh ht i1 htc k1).2.1]; exact ha _ _
        obtain ⟨hv2, _⟩ := hv1.clear ht htc
        obtain ⟨hl2, hr2⟩ := lr_clear hv1.sh ht htc hne ha1 hl1 hr1
        have ha2 := clear0_b hv1.sh ht htc hE2' hne ha1
        obtain ⟨b, hb⟩ : ∃ b, b = (eM (swapD 0 i k s).a 0 0).natAbs := ⟨_, rfl⟩
        have hb1 : 1 ≤ b := by omega
        have hbL : b ≤ L := by rw [hb, hpe]; exact hpL
        have hbE2 := hbE b hb1 hbL
        have ep : 2 ^ (9 - (b - 1)) = 2 * 2 ^ (9 - b) := by rw [show 9 - (b - 1) = (9 - b) + 1 by omega, pwS]
        have ep2 : 2 ^ (10 - b) = 2 * 2 ^ (9 - b) := by rw [show 10 - b = (9 - b) + 1 by omega, pwS]
      · refine ok_step hbd hst (ih1 (b - 1) (2 * E + 2) (G + 5122) _ hv2 ?_ (by omega) (by omega) (by omega) (by omega) ha2 (hl2.mono (by omega)) (hr2.mono (by omega)) hG2)
        rcases hu with ⟨x, x1, x2, x3⟩ | ⟨x, x1, x2, x3⟩
        · refine ⟨x, 0, ?_, ?_⟩
          · rw [clear_col hv1.sh ht htc x1]; exact x3
          · rw [clear_col hv1.sh ht htc x1]
            have := rs_fmod (eM (swapD 0 i k s).a x 0) hne
            unfold Rs at this; omega
        · refine ⟨0, x, ?_, ?_⟩
          · rw [clear_row hv1.sh ht htc x1]; exact x3
          · rw [clear_row hv1.sh ht htc x1]
            have := rs_fmod (eM (swapD 0 i k s).a 0 x) hne
            unfold Rs at this; omega
      · obtain ⟨hv3, _⟩ := hv2.add ht hj hj1
        obtain ⟨hl3, hr3⟩ := lr_add hv2.sh ht hj1 hl2 hr2
        obtain ⟨_, ea, _, _⟩ := add_parts hv2.sh ht hj1
        have z1 := zcol hv1.sh ht htc hne h1
        have z2 := zrow hv1.sh ht htc hne h2
        have hcp := clear_piv hv1.sh ht htc
        have e00 : eM (addD 0 q (clearD n c 0 (swapD 0 i k s))).a 0 0 = eM (swapD 0 i k s).a 0 0 := by
          rw [ea, if_pos rfl, hcp, z1 q hj]; omega
        refine ok_step hbd hst (ih2 b (2 * E + 3) (G + 5122) _ hv3 (by rw [e00]; exact hne) (by rw [e00, hb]) (fun x hx => by rw [ea, if_neg (by omega)]; exact z1 x hx) ⟨y, hy, hy1, ?_⟩ (by omega) (by omega) (by omega) (by omega) ?_ (hl3.mono (by omega)) (hr3.mono (by omega)) hG2)
        · rw [e00, ea, if_pos rfl, z2 y hy, Int.zero_add, ← hcp]; exact hbad
        · intro x y
          rw [ea]
          have a1 := ha2 0 y
          have a2 := ha2 q y
          have a3 := ha2 x y
          have e : 2 ^ (2 * E + 3) = 2 * 2 ^ (2 * E + 2) := pwS _
          split <;> omega
      · have z1 := zcol hv1.sh ht htc hne h1
        have z2 := zrow hv1.sh ht htc hne h2
        obtain ⟨hv3, _⟩ := hv2.posn ht z1 z2
        obtain ⟨hl3, hr3⟩ := lr_pos hv2.sh ht hl2 hr2
        exact ok_step hbd hst (K _ hv3 ((a_pos hv2.sh ht ha2).mono (by omega)) (hl3.mono (by omega)) (hr3.mono (by omega)))
    refine ⟨gen, ?_⟩
    rintro P E G s h h0 hP hcol ⟨y, hy, hyc, hyb⟩ hP9 hPj hE2' hE ha hl hr hG
    have hP1 : 1 ≤ P := by omega
    have hG2 : G + 5122 + j * 5122 ≤ G' := by omega
    have hG3 : G + j * 5122 ≤ G' := Nat.le_trans (Nat.add_le_add_right (Nat.le_add_right G 5122) _) hG2
    have hEL : E + 3 ≤ 10 * 2 ^ (9 - (P - 1)) := by rw [show 9 - (P - 1) = 10 - P by omega]; exact hE
    have hEb : E + 3 ≤ 5120 := by
      have : 2 ^ (10 - P) ≤ 2 ^ 9 := Nat.pow_le_pow_right (by omega) (by omega)
      omega
    by_cases hlow : ∃ x y, eM s.a x y ≠ 0 ∧ (eM s.a x y).natAbs < P
    · obtain ⟨x, y', hx, hx2⟩ := hlow
      exact ih1 (P - 1) E G s h ⟨x, y', hx, by omega⟩ (by omega) (by omega) hE2' hEL ha hl hr hG3
    · have hno : ∀ x y, eM s.a x y ≠ 0 → P ≤ (eM s.a x y).natAbs := by
        intro x y hx
        rcases Nat.lt_or_ge (eM s.a x y).natAbs P with h9 | h9
        · exact absurd ⟨x, y, hx, h9⟩ hlow
        · exact h9
      have hrn := stepD_rnd (t := 0) h.sh
      have hbd : bddD Et s = true := bdd_of ha hl hr (by omega) (by omega)
      have hik : ∀ i k, Pick n c 0 s i k → i = 0 ∧ k = 0 := by
        intro i k hp
        refine Classical.byContradiction fun hc => ?_
        rcases hp.any h.sh (Nat.le_refl 0) (Nat.le_refl 0) with a | ⟨_, a⟩
        · exact h0 a
        · have := a (by omega)
          have := hno i k hp.ne
          omega
      generalize hst : stepD n c 0 s = st at hrn
      rcases hrn with h9 | ⟨i, k, hp, hu⟩ | ⟨i, k, q, y', hp, h1, h2, hj, hj1, hy', hy1, hbad⟩ | ⟨i, k, hp, h1, h2, h3⟩
      · exact ok_stop hbd hst
      all_goals
        obtain ⟨rfl, rfl⟩ := hik i k hp
        have ht : 0 < n := hp.i1
        have htc : 0 < c := hp.k1
        have hsw : ∀ x y, eM (swapD 0 0 0 s).a x y = eM s.a x y := fun x y => by rw [(swap_parts h.sh ht ht htc htc).2.1, sx_self, sx_self]
      · obtain ⟨hv1, _⟩ := h.swap (Nat.le_refl 0) ht (Nat.le_refl 0) htc
        obtain ⟨hl1, hr1⟩ := lr_swap h.sh ht ht htc htc hl hr
        have hne : eM (swapD 0 0 0 s).a 0 0 ≠ 0 := by rw [hsw]; exact h0
        have ha1 : Bme E (swapD 0 0 0 s).a := fun x y => by rw [hsw]; exact ha _ _
        obtain ⟨hv2, _⟩ := hv1.clear ht htc
        obtain ⟨hl2, hr2⟩ := lr_clear hv1.sh ht htc hne ha1 hl1 hr1
        have hr0 := rs_lt (eM s.a 0 y) h0
        refine ok_step hbd hst (ih1 (P - 1) E (G + 5122) _ hv2 ⟨0, y, ?_, ?_⟩ (by omega) (by omega) hE2' hEL ?_ (hl2.mono (by omega)) (hr2.mono (by omega)) hG2)
        · rw [clear_row hv1.sh ht htc hy, hsw, hsw]; exact hyb
        · rw [clear_row hv1.sh ht htc hy, hsw, hsw]
          omega
        · intro x z
          by_cases hx : x = 0
          · subst hx
            by_cases hz : 0 < z
            · rw [clear_row hv1.sh ht htc hz, hsw, hsw]
              exact Nat.lt_trans (rs_lt (eM s.a 0 z) h0) (ha 0 0)
            · obtain rfl : z = 0 := by clear hr0; omega
              rw [clear_piv hv1.sh ht htc, hsw]; exact ha _ _
          · have hx0 : 0 < x := by clear hr0; omega
            have eq0 : qR (swapD 0 0 0 s) 0 x = 0 := by unfold qR; rw [hsw, hcol x hx0, fdiv0]
            rw [(clear_parts hv1.sh ht htc).2.1, if_pos hx0, if_pos hx0, eq0, hsw, hsw, hsw, hcol x hx0]
            simp only [Int.zero_mul, Int.sub_zero, Int.mul_zero, ite_self]
            exact ha _ _
      · exfalso
        have := h2 y hy hyc
        rw [hsw, hsw] at this
        exact hyb this
      · exfalso
        have := h2 y hy hyc
        rw [hsw, hsw] at this
        exact hyb this
theorem unit_el (n i k : Nat) : eM (unitM n) i k = if k = i ∧ i < n then 1 else 0 := by
  unfold unitM eM
  by_cases hi : i < n
  · rw [getD_map (fun i => unitR n i) (List.range n) i (by simpa using hi) [] 0, getD_get (l := List.range n) (i := i) (by simpa using hi)]
    simp only [List.getElem_range]
    exact unitR_getD n i k
  · rw [show (List.map (fun i => unitR n i) (List.range n)).getD i [] = [] by rw [List.getD_eq_getElem?_getD, List.getElem?_eq_none (by simp; omega)]; rfl, if_neg (by omega)]; simp
theorem unit_shape (n : Nat) : (unitM n).length = n ∧ Rect n (unitM n) := ⟨by simp [unitM], fun r hr => by
  obtain ⟨i, _, rfl⟩ := List.mem_map.1 hr
  simp [unitR]⟩
theorem start_inv {c : Nat} {M : Mx} (hR : Rect c M) : InvD M.length c 0 (startD M c) :=
  ⟨⟨rfl, hR, (unit_shape _).1, (unit_shape _).2, (unit_shape _).1, (unit_shape _).2⟩, fun i k _ h => by omega⟩
theorem unit_bme (n : Nat) : Bme 1 (unitM n) := fun i k => by
  rw [unit_el]; split <;> simp
def ED : Nat := 2000000000
theorem diag_ends {c : Nat} {M : Mx} (hn : M.length ≤ 3) (hc : c ≤ 3) (hR : Rect c M) (hent : ∀ i k, (eM M i k).natAbs < 128) (hlow : (∀ i k, eM M i k = 0) ∨ ∃ i k, eM M i k ≠ 0 ∧ (eM M i k).natAbs ≤ 9) : OkD ED M.length c 0 (startD M c) := by
  have ha : Bme 7 (startD M c).a := fun i k => hent i k
  have hl : Bme 1 (startD M c).l := unit_bme _
  have hr : Bme 1 (startD M c).r := unit_bme _
  have hv := start_inv hR
  rcases hlow with h0 | ⟨i, k, h0, h9⟩
  · refine ok_stop (bdd_of (E := ED) ha hl hr (by unfold ED; omega) (by unfold ED; omega)) ?_
    have hrn := stepD_rnd (t := 0) hv.sh
    generalize hst : stepD M.length c 0 (startD M c) = st at hrn
    rcases hrn with _ | ⟨i, k, hp, _⟩ | ⟨i, k, q, y, hp, _⟩ | ⟨i, k, hp, _⟩
    · rfl
    · exact absurd (h0 i k) hp.ne
    · exact absurd (h0 i k) hp.ne
    · exact absurd (h0 i k) hp.ne
  · have K3 : ∀ s, InvD M.length c 3 s → Bme 20486 s.a → Bme 1100000000 s.l → Bme 1100000000 s.r → OkD ED M.length c 3 s := by
      intro s hs a1 a2 a3
      refine ok_stop (bdd_of (E := ED) a1 a2 a3 (by unfold ED; omega) (by unfold ED; omega)) ?_
      have hrn := stepD_rnd (t := 3) hs.sh
      generalize hst : stepD M.length c 3 s = st at hrn
      rcases hrn with _ | ⟨i, k, hp, _⟩ | ⟨i, k, q, y, hp, _⟩ | ⟨i, k, hp, _⟩
      · rfl
      · have := hp.i0; have := hp.i1; omega
      · have := hp.i0; have := hp.i1; omega
      · have := hp.i0; have := hp.i1; omega
    have K2 : ∀ s, InvD M.length c 2 s → Bme 10242 s.a → Bme 220000000 s.l → Bme 220000000 s.r → OkD ED M.length c 2 s := fun s hs a1 a2 a3 =>
      phase1E (E := 10242) (G := 220000000) (G' := 1100000000) (by omega) (by omega) (by unfold ED; omega) (by unfold ED; omega) (by omega) K3 hs a1 a2 a3
    have K1 : ∀ s, InvD M.length c 1 s → Bme 5120 s.a → Bme 100000 s.l → Bme 100000 s.r → OkD ED M.length c 1 s := fun s hs a1 a2 a3 =>
      phase1E (E := 5120) (G := 100000) (G' := 220000000) (by omega) (by omega) (by unfold ED; omega) (by unfold ED; omega) (by omega) K2 hs a1 a2 a3
    exact (phase0 (G' := 100000) (by unfold ED; omega) (by unfold ED; omega) K1 18).1 9 7 1 _ hv ⟨i, k, h0, h9⟩ (by omega) (by omega) (by omega) (by omega) ha hl hr (by omega)
end Go.Proofs.YtokjolmpdfmnbaaGreatDoor
namespace Go.Proofs.YtokjolmpdfmnbaaGreatDoor
open Go.RowKit Go.Sort
def FacIs (M : Mx) (D : List Int) : Prop := ∃ n c rank fin, n ≤ 3 ∧ FinD n c (eM M) rank fin ∧ D = diagL rank fin.a
theorem FacIs.uni {M M' : Mx} {D D' : List Int} (h : FacIs M D) (h' : FacIs M' D') (e : Eqv (eM M) (eM M')) : D = D' := by
  obtain ⟨n, c, r, s, hn, hf, rfl⟩ := h
  obtain ⟨n', c', r', s', hn', hf', rfl⟩ := h'
  obtain ⟨hd, hp, hz⟩ := hf.dia hn
  obtain ⟨hd', hp', hz'⟩ := hf'.dia hn'
  have hu := dia_uni hd hd' ((hf.eqv.symm.trans e).trans hf'.eqv)
  have hr : r = r' := by
    rcases Nat.lt_trichotomy r r' with h | h | h
    · have h1 := hp' r h
      have h2 := hz r (Nat.le_refl _)
      have h3 := hu r
      omega
    · exact h
    · have h1 := hp r' h
      have h2 := hz' r' (Nat.le_refl _)
      have h3 := hu r'
      omega
  subst hr
  unfold diagL
  exact List.map_congr_left fun i _ => hu i
theorem gen_le {ι : Type} {f : ι → Int} {g : Int} {K : Nat} (h : ∀ x, (∀ i, x ∣ f i) ↔ x ∣ g) (hb : ∀ i, (f i).natAbs ≤ K) : g.natAbs ≤ K := by
  by_cases h0 : g = 0
  · rw [h0]; exact Nat.zero_le _
  · have hex : ∃ i, f i ≠ 0 := Classical.byContradiction fun hc => h0 (Int.zero_dvd.1 ((h 0).1 fun i => by
      have : f i = 0 := Classical.byContradiction fun h => hc ⟨i, h⟩
      rw [this]; exact Int.dvd_refl _))
    obtain ⟨i, hi⟩ := hex
    have h1 : g ∣ f i := (h g).2 (Int.dvd_refl _) i
    have h2 : g.natAbs ∣ (f i).natAbs := Int.natAbs_dvd_natAbs.2 h1
    exact Nat.le_trans (Nat.le_of_dvd (by omega) h2) (hb i)
theorem fac_small {M : Mx} {D : List Int} (h : FacIs M D) (hb : ∀ i k, (eM M i k).natAbs ≤ 128) : ∀ z ∈ D, 0 < z ∧ z ≤ 1000000000 := by
  obtain ⟨n, c, r, s, hn, hf, rfl⟩ := h
  obtain ⟨hd, hp, hz⟩ := hf.dia hn
  have ht : ∀ i j k l, (eM M i k * eM M j l).natAbs ≤ 16384 := fun i j k l => by
    rw [Int.natAbs_mul]
    exact Nat.le_trans (Nat.mul_le_mul (hb _ _) (hb _ _)) (by decide)
  have hb2 : ∀ i j k l, (m2 (eM M) i j k l).natAbs ≤ 32768 := fun i j k l => by
    have h1 := ht i j k l
    have h2 := ht i j l k
    unfold m2
    omega
  have hb3 : ∀ i j m k l p, (m3 (eM M) i j m k l p).natAbs ≤ 12582912 := fun i j m k l p => by
    have q : ∀ a b c d e f, (eM M a b * m2 (eM M) c d e f).natAbs ≤ 4194304 := fun a b c d e f => by
      rw [Int.natAbs_mul]
      exact Nat.le_trans (Nat.mul_le_mul (hb _ _) (hb2 _ _ _ _)) (by decide)
    have h1 := q i k j m l p
    have h2 := q i l j m k p
    have h3 := q i p j m k l
    unfold m3
    omega
  have n0 := hd.nn 0
  have n1 := hd.nn 1
  have n2 := hd.nn 2
  have g1 := gen_le (ι := Nat × Nat) (f := fun p => eM M p.1 p.2) (g := eM s.a 0 0) (fun x => (Iff.intro (fun h i k => h (i, k)) (fun h p => h p.1 p.2) : (∀ p : Nat × Nat, x ∣ eM M p.1 p.2) ↔ X1 x (eM M)).trans ((hf.eqv.e1 x).trans (hd.x1 x))) (fun p => hb _ _)
  have g2 := gen_le (ι := (Nat × Nat) × (Nat × Nat)) (f := fun p => m2 (eM M) p.1.1 p.1.2 p.2.1 p.2.2) (g := eM s.a 0 0 * eM s.a 1 1) (fun x => (Iff.intro (fun h i j k l => h ((i, j), (k, l))) (fun h p => h _ _ _ _) : (∀ p : (Nat × Nat) × (Nat × Nat), x ∣ m2 (eM M) p.1.1 p.1.2 p.2.1 p.2.2) ↔ X2 x (eM M)).trans ((hf.eqv.e2 x).trans (hd.x2 x))) (fun p => hb2 _ _ _ _)
  have g3 := gen_le (ι := (Nat × Nat × Nat) × (Nat × Nat × Nat)) (f := fun p => m3 (eM M) p.1.1 p.1.2.1 p.1.2.2 p.2.1 p.2.2.1 p.2.2.2) (g := eM s.a 0 0 * (eM s.a 1 1 * eM s.a 2 2)) (fun x => (Iff.intro (fun h i j m k l p => h ((i, j, m), (k, l, p))) (fun h p => h _ _ _ _ _ _) : (∀ p : (Nat × Nat × Nat) × (Nat × Nat × Nat), x ∣ m3 (eM M) p.1.1 p.1.2.1 p.1.2.2 p.2.1 p.2.2.1 p.2.2.2) ↔ X3 x (eM M)).trans ((hf.eqv.e3 x).trans (hd.x3 x))) (fun p => hb3 _ _ _ _ _ _)
  rw [Int.natAbs_mul] at g2 g3
  rw [Int.natAbs_mul] at g3
  intro z hz'
  obtain ⟨i, hi, rfl⟩ := List.mem_map.1 hz'
  have hir := List.mem_range.1 hi
  have hpi := hp i hir
  refine ⟨hpi, ?_⟩
  have hr3 : r ≤ 3 := by have := hf.rn; omega
  rcases (show i = 0 ∨ i = 1 ∨ i = 2 by omega) with rfl | rfl | rfl
  · omega
  · have p0 := hp 0 (by omega)
    have : (eM s.a 1 1).natAbs ≤ (eM s.a 0 0).natAbs * (eM s.a 1 1).natAbs := Nat.le_mul_of_pos_left _ (by omega)
    omega
  · have p0 := hp 0 (by omega)
    have p1 := hp 1 (by omega)
    have h1 : (eM s.a 2 2).natAbs ≤ (eM s.a 1 1).natAbs * (eM s.a 2 2).natAbs := Nat.le_mul_of_pos_left _ (by omega)
    have h2 : (eM s.a 1 1).natAbs * (eM s.a 2 2).natAbs ≤ (eM s.a 0 0).natAbs * ((eM s.a 1 1).natAbs * (eM s.a 2 2).natAbs) := Nat.le_mul_of_pos_left _ (by omega)
    omega
structure SmF (M : Mx) : Prop where
  n0 : 0 < M.length
  n3 : M.length ≤ 3
  c0 : 0 < ncols M
  c3 : ncols M ≤ 3
  rect : Rect (ncols M) M
  ent : ∀ i k, (eM M i k).natAbs < 128
  low : (∀ i k, eM M i k = 0) ∨ ∃ i k, eM M i k ≠ 0 ∧ (eM M i k).natAbs ≤ 9
theorem SmF.mem {M : Mx} (h : SmF M) : ∀ r ∈ M, ∀ z ∈ r, z.natAbs < 128 := fun r hr z hz => by
  obtain ⟨i, hi, rfl⟩ := List.getElem_of_mem hr
  obtain ⟨k, hk, rfl⟩ := List.getElem_of_mem hz
  have := h.ent i k
  unfold eM at this
  rwa [getD_get hi, getD_get hk] at this
theorem SmF.check {M : Mx} (h : SmF M) : checkM M = 0 := by
  unfold checkM
  rw [if_neg (by have := h.n3; omega)]
  refine chk_all _ M fun j hj => ?_
  have h1 := h.rect _ (List.getElem_mem hj)
  have h2 := h.mem _ (List.getElem_mem hj)
  have h3 : (M.getD 0 []).length = ncols M := rfl
  rw [h3]
  have h4 := h.c3
  have h5 : M[j].any grt = false := by
    rw [List.any_eq_false]
    intro z hz
    have := h2 z hz
    unfold grt
    simp only [decide_eq_true_eq]
    omega
  unfold chkR
  simp [h1, h5]
  omega
theorem SmM.smf {M : Mx} (h : SmM M) (h0 : 0 < M.length) (hc : 0 < ncols M) : SmF M := by
  have hb : ∀ i k, (eM M i k).natAbs ≤ 9 := fun i k => by
    by_cases hi : i < M.length
    · by_cases hk : k < M[i].length
      · have := h.ent _ (List.getElem_mem hi) _ (List.getElem_mem hk)
        unfold eM; rw [getD_get hi, getD_get hk]; omega
      · rw [el_col h.rect (by have := h.rect _ (List.getElem_mem hi); omega)]; decide
    · rw [el_row (by omega)]; decide
  refine ⟨h0, h.n3, hc, h.c3, h.rect, fun i k => by have := hb i k; omega, ?_⟩
  by_cases hz : ∀ i k, eM M i k = 0
  · exact .inl hz
  · right
    refine Classical.byContradiction fun hc => hz fun i k => Classical.byContradiction fun h => hc ⟨i, k, h, hb i k⟩
theorem SmF.run {M : Mx} (h : SmF M) : ∃ f rank fin, runD ED M.length (ncols M) f 0 (startD M (ncols M)) = some (rank, fin) ∧ FinD M.length (ncols M) (eM M) rank fin ∧ BM ED fin.a := by
  obtain ⟨f, ⟨rank, fin⟩, hr⟩ := diag_ends h.n3 h.c3 h.rect h.ent h.low
  obtain ⟨h1, h2⟩ := runD_fin (A := eM M) f 0 _ hr (start_inv h.rect) (fun i hi => by omega) (Nat.zero_le _) (Nat.zero_le _) (Eqv.refl _)
  exact ⟨f, rank, fin, hr, h1, (bdd_b h2).1⟩
theorem ed_lim : 2 * (4 * ED + 3) + 2 < LIM := by unfold ED; decide
end Go.Proofs.YtokjolmpdfmnbaaGreatDoor
namespace Go.Proofs.YtokjolmpdfmnbaaGreatDoor
open Go.RowKit Go.Sort
def selI (n r : Nat) : List Nat := (List.range n).filter fun i => r / 2 ^ i % 2 == 1
def subR (l : List Int) (c r : Nat) : List Int := (selI c r).map fun k => l.getD k 0
def subM (M : Mx) (n c rs cs : Nat) : Mx := (selI n rs).map fun i => subR (M.getD i []) c cs
theorem subM_ent {B : Nat} {M : Mx} (h : EntB B M) (n c rs cs : Nat) : EntB B (subM M n c rs cs) := fun r hr z hz => by
  obtain ⟨i, _, rfl⟩ := List.mem_map.1 hr
  obtain ⟨k, _, rfl⟩ := List.mem_map.1 hz
  exact entB_el h i k
def divStep (M : Mx) (n c k : Nat) (rs : Nat) (g : Nat) (cs : Nat) : Nat := if (selI n rs).length = k ∧ (selI c cs).length = k then Int.gcd g (detF k (subM M n c rs cs)) else g
def divRow (M : Mx) (n c k rs : Nat) (g : Nat) : Nat → Nat
  | 0 => g
  | cs + 1 => divStep M n c k rs (divRow M n c k rs g cs) cs
def divAll (M : Mx) (n c k : Nat) : Nat → Nat
  | 0 => 0
  | rs + 1 => divRow M n c k rs (divAll M n c k rs) (2 ^ c)
theorem gcd_b {g L : Nat} {d : Int} (hg : g ≤ L) (hd : d.natAbs ≤ L) : Int.gcd g d ≤ L := by
  unfold Int.gcd
  rcases Nat.eq_zero_or_pos g with h | h
  · subst h; simpa using hd
  · exact Nat.le_trans (Nat.gcd_le_left _ (by simpa using h)) (by simpa using hg)
theorem divStep_b {M : Mx} {n c k rs g cs B L : Nat} (hE : EntB B M) (hb : dB8 B k ≤ L) (hg : g ≤ L) : divStep M n c k rs g cs ≤ L := by
  unfold divStep
  split
  · exact gcd_b hg (Nat.le_trans (detF_b k (subM_ent hE n c rs cs)) hb)
  · exact hg
theorem divRow_b {M : Mx} {n c k rs g B L : Nat} (hE : EntB B M) (hb : dB8 B k ≤ L) (hg : g ≤ L) : ∀ cs, divRow M n c k rs g cs ≤ L
  | 0 => hg
  | cs + 1 => divStep_b hE hb (divRow_b hE hb hg cs)
theorem divAll_b {M : Mx} {n c k B L : Nat} (hE : EntB B M) (hb : dB8 B k ≤ L) : ∀ rs, divAll M n c k rs ≤ L
  | 0 => Nat.zero_le _
  | rs + 1 => divRow_b hE hb (divAll_b hE hb rs) _
end Go.Proofs.YtokjolmpdfmnbaaGreatDoor
