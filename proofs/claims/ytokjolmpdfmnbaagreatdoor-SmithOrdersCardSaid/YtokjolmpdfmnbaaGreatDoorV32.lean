/- Part 32 of the proof of the claim: contracts of the functions that it reaches, and plain laws; no condition. -/
import Derived.Test.YtokjolmpdfmnbaaGreatDoorV31
import Derived.Test.YtokjolmpdfmnbaaGreatDoorV15
import Derived.Test.YtokjolmpdfmnbaaGreatDoorV21
import Derived.Test.YtokjolmpdfmnbaaGreatDoorV27
import Derived.Test.YtokjolmpdfmnbaaGreatDoorV09
import Derived.BigQuiet
import Derived.Test.YtokjolmpdfmnbaaGreatDoorV19
import Derived.Test.YtokjolmpdfmnbaaGreatDoorV16
namespace Go.Proofs.YtokjolmpdfmnbaaGreatDoor
def InL (A : FM) (b : Nat → Int) : Prop := ∃ y : Nat → Int, ∀ k, b k = y 0 * A 0 k + y 1 * A 1 k + y 2 * A 2 k
def appF (A : FM) (b : Nat → Int) : FM := fun i k => if i = 3 then b k else A i k
structure TrF (A B : FM) (T : (Nat → Int) → Nat → Int) : Prop where
  inl : ∀ b, InL A b ↔ InL B (T b)
  eqv : ∀ b, Eqv (appF A b) (appF B (T b))
  mul : ∀ b (q : Int), T (fun k => q * b k) = fun k => q * T b k
  far : ∀ b : Nat → Int, (∀ k, 3 ≤ k → b k = 0) → ∀ k, 3 ≤ k → T b k = 0
theorem TrF.refl (A : FM) : TrF A A fun b => b := ⟨fun _ => Iff.rfl, fun _ => Eqv.refl _, fun _ _ => rfl, fun _ h => h⟩
theorem TrF.trans {A B C : FM} {T U : (Nat → Int) → Nat → Int} (h : TrF A B T) (g : TrF B C U) : TrF A C fun b => U (T b) :=
  ⟨fun b => (h.inl b).trans (g.inl _), fun b => (h.eqv b).trans (g.eqv _), fun b q => by rw [h.mul, g.mul], fun b hb => g.far _ (h.far b hb)⟩
theorem tr_shear {t : Nat} {f : Nat → Int} {A B : FM} (ht : t < 3) (h0 : f t = 0) (hf : f 3 = 0) (h : ∀ i k, B i k = A i k - f i * A t k) : TrF A B fun b => b := by
  refine ⟨fun b => ?_, fun b => ?_, fun _ _ => rfl, fun _ h => h⟩
  · constructor
    · rintro ⟨y, hy⟩
      refine ⟨fun i => y i + if i = t then y 0 * f 0 + y 1 * f 1 + y 2 * f 2 else 0, fun k => ?_⟩
      rw [hy k]
      simp only [h]
      rcases (show t = 0 ∨ t = 1 ∨ t = 2 by omega) with rfl | rfl | rfl <;> simp only [h0] <;> grind
    · rintro ⟨y, hy⟩
      refine ⟨fun i => y i - if i = t then y 0 * f 0 + y 1 * f 1 + y 2 * f 2 else 0, fun k => ?_⟩
      rw [hy k]
      simp only [h]
      rcases (show t = 0 ∨ t = 1 ∨ t = 2 by omega) with rfl | rfl | rfl <;> simp only [h0] <;> grind
  · refine eqv_shear (t := t) (f := f) h0 fun i k => ?_
    unfold appF
    rw [if_neg (by omega : ¬ t = 3)]
    by_cases hi : i = 3
    · rw [if_pos hi, if_pos hi, hi, hf]; simp
    · rw [if_neg hi, if_neg hi, h]
theorem tr_cshear {t : Nat} {g : Nat → Int} {A B : FM} (h0 : g t = 0) (hg : ∀ k, 3 ≤ k → g k = 0) (h : ∀ i k, B i k = A i k - g k * A i t) : TrF A B fun b k => b k - g k * b t := by
  refine ⟨fun b => ?_, fun b => ?_, fun b q => ?_, fun b hb k hk => ?_⟩
  · constructor
    · rintro ⟨y, hy⟩
      refine ⟨y, fun k => ?_⟩
      simp only [h, hy k, hy t]
      grind
    · rintro ⟨y, hy⟩
      refine ⟨y, fun k => ?_⟩
      have h1 := hy k
      have h2 := hy t
      simp only [h, h0] at h1 h2
      have h3 : b k = (b k - g k * b t) + g k * (b t - 0 * b t) := by grind
      rw [h3, h1, h2]
      grind
  · refine eqv_cshear (t := t) (g := g) h0 fun i k => ?_
    unfold appF
    by_cases hi : i = 3
    · rw [if_pos hi, if_pos hi, if_pos hi]
    · rw [if_neg hi, if_neg hi, if_neg hi, h]
  · funext k; simp only; grind
  · rw [hb k hk, hg k hk]; simp
theorem tr_neg {e : Nat → Int} {A B : FM} (he : ∀ i, e i * e i = 1) (h3 : e 3 = 1) (h : ∀ i k, B i k = e i * A i k) : TrF A B fun b => b := by
  refine ⟨fun b => ?_, fun b => ?_, fun _ _ => rfl, fun _ h => h⟩
  · have h2 : ∀ i k, A i k = e i * B i k := fun i k => by rw [h, ← Int.mul_assoc, he, Int.one_mul]
    constructor
    · rintro ⟨y, hy⟩
      refine ⟨fun i => y i * e i, fun k => ?_⟩
      rw [hy k, h2 0 k, h2 1 k, h2 2 k]; grind
    · rintro ⟨y, hy⟩
      refine ⟨fun i => y i * e i, fun k => ?_⟩
      rw [hy k, h 0 k, h 1 k, h 2 k]; grind
  · refine eqv_neg (e := e) he fun i k => ?_
    unfold appF
    by_cases hi : i = 3
    · rw [if_pos hi, if_pos hi, hi, h3, Int.one_mul]
    · rw [if_neg hi, if_neg hi, h]
theorem sx3 {t i x : Nat} (ht : t < 3) (hi : i < 3) (hx : 3 ≤ x) : sx t i x = x := by unfold sx; rw [if_neg (by omega), if_neg (by omega)]
theorem tr_perm {t i j : Nat} {u : Nat} {A B : FM} (ht : t < 3) (hi : i < 3) (hu : u < 3) (hj : j < 3) (h : ∀ x y, B x y = A (sx t i x) (sx u j y)) : TrF A B fun b y => b (sx u j y) := by
  have perm : ∀ (y : Nat → Int) (v : Nat → Int), y 0 * v 0 + y 1 * v 1 + y 2 * v 2 = y (sx t i 0) * v (sx t i 0) + y (sx t i 1) * v (sx t i 1) + y (sx t i 2) * v (sx t i 2) := fun y v => by
    rcases (show t = 0 ∨ t = 1 ∨ t = 2 by omega) with rfl | rfl | rfl <;> rcases (show i = 0 ∨ i = 1 ∨ i = 2 by omega) with rfl | rfl | rfl <;> simp [sx] <;> omega
  refine ⟨fun b => ?_, fun b => ?_, fun b q => rfl, fun b hb k hk => ?_⟩
  · constructor
    · rintro ⟨y, hy⟩
      refine ⟨fun x => y (sx t i x), fun k => ?_⟩
      simp only [h]
      rw [hy (sx u j k)]
      exact perm y fun x => A x (sx u j k)
    · rintro ⟨y, hy⟩
      refine ⟨fun x => y (sx t i x), fun k => ?_⟩
      have h1 := hy (sx u j k)
      simp only [h, sx_inv] at h1
      rw [h1, perm y fun x => A (sx t i x) k]
      simp only [sx_inv]
  · refine eqv_perm (σ := sx t i) (τ := sx u j) (sx_inv t i) (sx_inv u j) fun x y => ?_
    unfold appF
    by_cases hx : x = 3
    · rw [if_pos hx, hx, sx3 ht hi (Nat.le_refl 3), if_pos rfl]
    · have : sx t i x ≠ 3 := fun e => hx (by have := sx_inv t i x; rw [e, sx3 ht hi (Nat.le_refl 3)] at this; omega)
      rw [if_neg hx, if_neg this, h]
  · rw [sx3 hu hj hk]; exact hb k hk
theorem tr_clear {n c t : Nat} {s : Dg} (h : ShD n c s) (hn : n ≤ 3) (hc : c ≤ 3) (ht : t < n) (htc : t < c) : ∃ T, TrF (eM s.a) (eM (clearD n c t s).a) T := by
  obtain ⟨_, h2, _, _⟩ := clear_parts h ht htc
  have e1 : TrF (eM s.a) (fun i k => if t < i then eM s.a i k - qR s t i * eM s.a t k else eM s.a i k) fun b => b := by
    refine tr_shear (t := t) (f := fun i => if t < i then qR s t i else 0) (by omega) (if_neg (by omega)) ?_ fun i k => ?_
    · rw [if_pos (by omega)]
      unfold qR
      rw [el_row (by have := h.la; omega), fdiv0]
    · split
      · rfl
      · simp
  refine ⟨_, e1.trans (tr_cshear (t := t) (g := fun k => if t < k then qC s t k else 0) (if_neg (by omega)) (fun k hk => ?_) fun i k => ?_)⟩
  · rw [if_pos (by omega)]
    unfold qC
    rw [el_col h.ra (by omega), fdiv0]
  · rw [h2]
    by_cases hk : t < k
    · rw [if_pos hk, if_pos hk]
    · rw [if_neg hk, if_neg hk]; simp
theorem tr_add {n c t i : Nat} {s : Dg} (h : ShD n c s) (hn : n ≤ 3) (ht : t < n) (hi : i < n) (hne : t ≠ i) : TrF (eM s.a) (eM (addD t i s).a) fun b => b := by
  obtain ⟨_, h2, _, _⟩ := add_parts h ht hi
  refine tr_shear (t := i) (f := fun j => if j = t then -1 else 0) (by omega) (if_neg (Ne.symm hne)) (if_neg (by omega)) fun j k => ?_
  rw [h2]
  split
  · rename_i e; rw [e]; omega
  · simp
theorem tr_pos {n c t : Nat} {s : Dg} (h : ShD n c s) (hn : n ≤ 3) (ht : t < n) : TrF (eM s.a) (eM (posD t s).a) fun b => b := by
  obtain ⟨_, h2, _, _⟩ := pos_parts h ht
  refine tr_neg (e := fun j => if j = t ∧ eM s.a t t < 0 then -1 else 1) (fun i => by split <;> rfl) (if_neg (by omega)) fun j k => ?_
  rw [h2]
  split
  · rename_i e; rw [e.1]; omega
  · simp
theorem runD_tr {E n c : Nat} {A : FM} (hn : n ≤ 3) (hc : c ≤ 3) : ∀ (f t : Nat) (s : Dg) {rank : Nat} {fin : Dg}, runD E n c f t s = some (rank, fin) → InvD n c t s → (∃ T, TrF A (eM s.a) T) → ∃ T, TrF A (eM fin.a) T
  | 0, _, _, _, _, h, _, _ => by cases h
  | f + 1, t, s, rank, fin, h, hv, he => by
    rw [runD] at h
    split at h
    · have hrn := stepD_rnd (t := t) hv.sh
      generalize hst : stepD n c t s = st at hrn h
      rcases hrn with h0 | ⟨i, k, hp, hu⟩ | ⟨i, k, q, y, hp, h1, h2, hj, hj1, hy, hy1, hbad⟩ | ⟨i, k, hp, h1, h2, h3⟩
      · injection h with h; injection h with h4 h5
        subst h5
        exact he
      all_goals
        have i0 := hp.i0
        have i1 := hp.i1
        have k0 := hp.k0
        have k1 := hp.k1
        have ht : t < n := by omega
        have htc' : t < c := by omega
        obtain ⟨hv1, _⟩ := hv.swap i0 i1 k0 k1
        obtain ⟨T0, hT0⟩ := he
        have hT1 := hT0.trans (tr_perm (by omega) (by omega) (by omega) (by omega) (swap_parts hv.sh ht i1 htc' k1).2.1)
        have hne : eM (swapD t i k s).a t t ≠ 0 := by rw [hp.piv hv.sh]; exact hp.ne
        obtain ⟨hv2, _⟩ := hv1.clear ht htc'
        obtain ⟨T2, hT2⟩ := tr_clear hv1.sh hn hc ht htc'
        have hT3 := hT1.trans hT2
      · exact runD_tr hn hc f t _ h hv2 ⟨_, hT3⟩
      · obtain ⟨hv3, _⟩ := hv2.add ht hj hj1
        exact runD_tr hn hc f t _ h hv3 ⟨_, hT3.trans (tr_add hv2.sh hn ht hj1 (by omega))⟩
      · have z1 := zcol hv1.sh ht htc' hne h1
        have z2 := zrow hv1.sh ht htc' hne h2
        obtain ⟨hv3, _⟩ := hv2.posn ht z1 z2
        exact runD_tr hn hc f (t + 1) _ h hv3 ⟨_, hT3.trans (tr_pos hv2.sh hn ht)⟩
    · cases h
theorem SmF.tr {M : Mx} (h : SmF M) : ∃ rank fin T, FinD M.length (ncols M) (eM M) rank fin ∧ TrF (eM M) (eM fin.a) T := by
  obtain ⟨f, rank, fin, hr, hf, _⟩ := h.run
  obtain ⟨T, hT⟩ := runD_tr (A := eM M) h.n3 h.c3 f 0 _ hr (start_inv h.rect) ⟨_, TrF.refl _⟩
  exact ⟨rank, fin, T, hf, hT⟩
theorem Dia.inl {A : FM} {d : Nat → Int} (h : Dia A d) {b : Nat → Int} (hb : ∀ k, 3 ≤ k → b k = 0) : InL A b ↔ ∀ k, k < 3 → d k ∣ b k := by
  constructor
  · rintro ⟨y, hy⟩ k hk
    rw [hy k, h.el, h.el, h.el]
    rcases (show k = 0 ∨ k = 1 ∨ k = 2 by omega) with rfl | rfl | rfl <;> simp <;> exact Int.dvd_mul_left _ _
  · intro hd
    obtain ⟨y0, h0⟩ := hd 0 (by omega)
    obtain ⟨y1, h1⟩ := hd 1 (by omega)
    obtain ⟨y2, h2⟩ := hd 2 (by omega)
    refine ⟨fun i => if i = 0 then y0 else if i = 1 then y1 else y2, fun k => ?_⟩
    rw [h.el, h.el, h.el]
    by_cases hk : 3 ≤ k
    · rw [hb k hk, if_neg (by omega), if_neg (by omega), if_neg (by omega)]; simp
    · rcases (show k = 0 ∨ k = 1 ∨ k = 2 by omega) with rfl | rfl | rfl
      · simp [h0, Int.mul_comm]
      · simp [h1, Int.mul_comm]
      · simp [h2, Int.mul_comm]
theorem inl_eqv {A : FM} (h3 : ∀ k, A 3 k = 0) {b : Nat → Int} (hb : InL A b) : Eqv A (appF A b) := by
  obtain ⟨y, hy⟩ := hb
  have s0 : Eqv A (appF A fun k => y 0 * A 0 k) := eqv_shear (t := 0) (f := fun i => if i = 3 then -(y 0) else 0) rfl fun i k => by
    unfold appF
    by_cases hi : i = 3
    · rw [if_pos hi, if_pos hi, hi, h3]; grind
    · rw [if_neg hi, if_neg hi]; simp
  have s1 : Eqv (appF A fun k => y 0 * A 0 k) (appF A fun k => y 0 * A 0 k + y 1 * A 1 k) := eqv_shear (t := 1) (f := fun i => if i = 3 then -(y 1) else 0) rfl fun i k => by
    unfold appF
    rw [if_neg (by omega : ¬ 1 = 3)]
    by_cases hi : i = 3
    · rw [if_pos hi, if_pos hi, if_pos hi]; grind
    · rw [if_neg hi, if_neg hi, if_neg hi]; simp
  have s2 : Eqv (appF A fun k => y 0 * A 0 k + y 1 * A 1 k) (appF A fun k => y 0 * A 0 k + y 1 * A 1 k + y 2 * A 2 k) := eqv_shear (t := 2) (f := fun i => if i = 3 then -(y 2) else 0) rfl fun i k => by
    unfold appF
    rw [if_neg (by omega : ¬ 2 = 3)]
    by_cases hi : i = 3
    · rw [if_pos hi, if_pos hi, if_pos hi]; grind
    · rw [if_neg hi, if_neg hi, if_neg hi]; simp
  have e : b = fun k => y 0 * A 0 k + y 1 * A 1 k + y 2 * A 2 k := funext hy
  rw [e]
  exact (s0.trans s1).trans s2
theorem Dia.eqv_inl {A : FM} {d : Nat → Int} (h : Dia A d) {b : Nat → Int} (he : Eqv A (appF A b)) : ∀ k, k < 3 → d k ∣ b k := by
  have r3 : ∀ k, appF A b 3 k = b k := fun k => if_pos rfl
  have r0 : ∀ i k, i ≠ 3 → appF A b i k = if i = k then d i else 0 := fun i k hi => by unfold appF; rw [if_neg hi, h.el]
  have x1 : ∀ k, d 0 ∣ b k := fun k => by
    have := (he.e1 (d 0)).1 ((h.x1 _).2 (Int.dvd_refl _)) 3 k
    rwa [r3] at this
  have x2 : ∀ k, k ≠ 0 → d 0 * d 1 ∣ d 0 * b k := fun k hk => by
    have := (he.e2 (d 0 * d 1)).1 ((h.x2 _).2 (Int.dvd_refl _)) 0 3 0 k
    unfold m2 at this
    rw [r3, r3, r0 0 0 (by omega), r0 0 k (by omega), if_pos rfl, if_neg (Ne.symm hk)] at this
    simpa using this
  have x3 : ∀ k, k ≠ 0 → k ≠ 1 → d 0 * (d 1 * d 2) ∣ d 0 * (d 1 * b k) := fun k hk hk1 => by
    have := (he.e3 (d 0 * (d 1 * d 2))).1 ((h.x3 _).2 (Int.dvd_refl _)) 0 1 3 0 1 k
    unfold m3 m2 at this
    rw [r3, r3, r3, r0 0 0 (by omega), r0 0 1 (by omega), r0 0 k (by omega), r0 1 0 (by omega), r0 1 1 (by omega), r0 1 k (by omega)] at this
    simpa [Ne.symm hk, Ne.symm hk1] using this
  have z : ∀ i j, i ≤ j → d i = 0 → d j = 0 := fun i j hij h0 => by have := h.dv i j hij; rw [h0] at this; exact Int.zero_dvd.1 this
  intro k hk
  rcases (show k = 0 ∨ k = 1 ∨ k = 2 by omega) with rfl | rfl | rfl
  · exact x1 0
  · by_cases c0 : d 0 = 0
    · have := x1 1; rw [c0] at this; rw [z 0 1 (by omega) c0]; exact this
    · exact Int.dvd_of_mul_dvd_mul_left c0 (x2 1 (by omega))
  · by_cases c0 : d 0 = 0
    · have := x1 2; rw [c0] at this; rw [z 0 2 (by omega) c0]; exact this
    · by_cases c1 : d 1 = 0
      · have := x2 2 (by omega)
        rw [c1, Int.mul_zero] at this
        rcases Int.mul_eq_zero.1 (Int.zero_dvd.1 this) with h' | h'
        · exact absurd h' c0
        · rw [h']; exact Int.dvd_zero _
      · exact Int.dvd_of_mul_dvd_mul_left c1 (Int.dvd_of_mul_dvd_mul_left c0 (x3 2 (by omega) (by omega)))
theorem SmF.inl {M : Mx} (h : SmF M) {b : Nat → Int} (hb : ∀ k, 3 ≤ k → b k = 0) : InL (eM M) b ↔ Eqv (eM M) (appF (eM M) b) := by
  obtain ⟨rank, fin, T, hf, hT⟩ := h.tr
  obtain ⟨hd, _, _⟩ := hf.dia h.n3
  constructor
  · exact inl_eqv fun k => el_row (by have := h.n3; omega) k
  · intro he
    rw [hT.inl b, hd.inl (hT.far b hb)]
    exact hd.eqv_inl ((hf.eqv.symm.trans he).trans (hT.eqv b))
end Go.Proofs.YtokjolmpdfmnbaaGreatDoor
namespace Go.Proofs.YtokjolmpdfmnbaaGreatDoor
open Hnf
section
variable {M : Mx} {n c : Nat} (hl : M.length = n) (hR : Rect c M) (hn : n ≤ 4) (hc : c ≤ 4)
include hl hR hn hc
omit hl hR hn hc in
theorem dv_big {t : Nat} (h : n ≤ t ∨ c ≤ t) : dvA M n c t = 0 := by
  have : (0 : Int) ∣ (dvA M n c t : Int) := by
    unfold dvA
    rw [divAll_dvd]
    intro r _ s _ a b
    have h1 := selI_le n r
    have h2 := selI_le c s
    omega
  have := Int.zero_dvd.1 this
  omega
end
theorem snoc_el {M : Mx} {b : List Int} (i k : Nat) : eM (M ++ [b]) i k = if i = M.length then vr b k else eM M i k := by
  unfold eM vr
  rcases Nat.lt_trichotomy i M.length with h | h | h
  · rw [if_neg (by omega), show (M ++ [b]).getD i [] = M.getD i [] by rw [List.getD_eq_getElem?_getD, List.getElem?_append_left h, ← List.getD_eq_getElem?_getD]]
  · rw [if_pos h, show (M ++ [b]).getD i [] = b by rw [h, List.getD_eq_getElem?_getD, List.getElem?_append_right (Nat.le_refl _), Nat.sub_self]; rfl]
  · rw [if_neg (by omega)]
    have e1 : (M ++ [b]).getD i [] = [] := by rw [List.getD_eq_getElem?_getD, List.getElem?_eq_none (by simp; omega)]; rfl
    have e2 : M.getD i [] = [] := by rw [List.getD_eq_getElem?_getD, List.getElem?_eq_none (by omega)]; rfl
    rw [e1, e2]
theorem snoc_eqv {M : Mx} {b : List Int} (h : M.length ≤ 3) : Eqv (appF (eM M) (vr b)) (eM (M ++ [b])) := by
  refine eqv_perm (σ := fun i => if i = 3 then M.length else if i = M.length then 3 else i) (τ := fun k => k) (fun i => ?_) (fun _ => rfl) (fun i k => ?_)
  · repeat' split
    all_goals omega
  · rw [snoc_el]
    unfold appF
    by_cases h1 : i = 3
    · subst h1
      rw [if_pos rfl]
      by_cases h2 : M.length = 3
      · rw [if_pos h2, if_pos h2.symm]
      · rw [if_neg h2, if_neg (Ne.symm h2), el_row (by omega), el_row (by omega)]
    · rw [if_neg h1]
      by_cases h2 : i = M.length
      · rw [if_pos h2, if_pos h2, if_pos rfl]
      · rw [if_neg h2, if_neg h2, if_neg h1]
theorem inl_span {M : Mx} (h : M.length ≤ 3) {b : V} : InL (eM M) b ↔ Span (latM M) b := by
  rw [span_cmb]
  constructor
  · rintro ⟨y, hy⟩
    refine ⟨y, ?_⟩
    funext k
    rw [cmb_T3 h]; exact hy k
  · rintro ⟨y, rfl⟩
    exact ⟨y, fun k => cmb_T3 h y k⟩
end Go.Proofs.YtokjolmpdfmnbaaGreatDoor
namespace Go.Proofs.YtokjolmpdfmnbaaGreatDoor
open Go.RowKit Go.Sort
theorem vs_mat {B : Nat} {w : World} {v : Value} {F : Mx} {vs : List Value} (h1 : vs.length = F.length) (h2 : w.ownsRow B 32 1 v F.length vs) (hr : ∀ i (_ : i < F.length) (h' : i < vs.length), RowR w vs[i] F[i]) : MatR w v F := by
  rcases h2.2 with ⟨rfl, h0⟩ | ⟨g, cap, cur, rfl, hb, hg, hn, hm, hs, ht⟩
  · have : F = [] := List.eq_nil_of_length_eq_zero h0
    subst this
    have hv : vs = [] := List.eq_nil_of_length_eq_zero h1
    subst hv
    exact ⟨none, 0, 0, 0, [], rfl, Nat.le_refl _, rfl, Sl.nil _ _ _ _, hr⟩
  · have ho : OwnV 32 B w g cap vs := by unfold OwnV; rw [h1]; exact h2
    exact ⟨_, g, 0, cap, vs, rfl, hn, h1, ho.sl, hr⟩
section
variable {w : World} {ops : Array Oper} {rest : List Oper} {o : Oper} {a : Act} {Q : Exit → Act → World → Prop}
theorem app_vs (hgd : o.guard = none) (s x : Operand) (ho : o.op = .call { callee := .builtin .append, args := #[s, x], argTypes := #[29, 29] })
    {B n m c gb go : Nat} {v : Value} {sa : Option Addr} {xs us : List Value} (hs : a.eval s = v) (hown : w.ownsRow B 32 1 v n xs) (hx : a.eval x = .slice sa m c) (hS : Sl w sa gb go us) (hm : us.length = m) (hm0 : 0 < m) (h1 : ∀ u ∈ us, u.oneCell' = true) (hl : n + m ≤ 1000000000) (hB : B ≤ w.heap.size)
    (h : ∀ v' w', w'.ownsRow B 32 1 v' (n + m) (xs ++ us) → Below B w w' → wpList Tryz.prog ops Q rest (a.put o.dst v') w') : wpList Tryz.prog ops Q (o :: rest) a w := by
  obtain ⟨i0, hi, hz0, hz1, hz2⟩ := info_parts Tryz.infoRow
  obtain rfl := hS.addr (by omega)
  refine wpList_append_lies w hgd s x 29 ho B 32 i0 _ 1 24 Tryz.underlying29 hi hz0 hz1 hz2 rfl (by omega) v n xs hs hown ⟨gb, go, none⟩ m c us hx (by omega) ?_ h1 hm0 (by unfold maxLen; omega) (by omega) hB w.heap.size rfl ?_
  · intro j u hj
    rw [Lib.add_plain]
    exact hS.cell j u hj
  · intro g cap w' k1 k2 k3 k4
    exact h _ w' k1 (Below.grown (Below.refl _ _) k2 hB (fun q hq => (World.ownsRow.lt hown q hq).1))
theorem app_vs0 (hgd : o.guard = none) (s x : Operand) (ho : o.op = .call { callee := .builtin .append, args := #[s, x], argTypes := #[29, 29] })
    {m c : Nat} {sa : Option Addr} (hs : a.eval s = .slice none 0 0) (hx : a.eval x = .slice sa m c) (hm : m = 0)
    (h : wpList Tryz.prog ops Q rest (a.put o.dst (.slice none 0 0)) w) : wpList Tryz.prog ops Q (o :: rest) a w :=
  wpList_plain hgd fun K hK => by
    subst hm
    obtain ⟨i0, hi, hz0, hz1, hz2⟩ := info_parts Tryz.infoRow
    have hr : (Builtin.append_ #[29, 29] o.type #[.slice none 0 0, .slice sa 0 c]).run Tryz.prog w = .ok (.slice none 0 0) w := by
      rcases sa with _ | ad
      · simp [Builtin.append_, run_underlying Tryz.underlying29, sizeOf, typeInfo, hi, Builtin.lenOf, Builtin.firstCells]
      · simp [Builtin.append_, run_underlying Tryz.underlying29, sizeOf, typeInfo, hi, Builtin.lenOf, Builtin.firstCells, loadCells, loadCellsFrom]
    unfold Oper.wp execOp
    simp only [ho, resolve, invoke, builtin, Sem.run_bind, Sem.run_pure, Result.andThen_ok, List.map_toArray, List.map_cons, List.map_nil, hs, hx, hr]
    exact hK _ _ h
end
theorem RowR.one {w : World} {v : Value} {r : List Int} (h : RowR w v r) : v.oneCell' = true := by
  obtain ⟨sa, gb, go, cap, rfl, _⟩ := h; rfl
set_option maxRecDepth 100000 in
set_option maxHeartbeats 1000000 in
theorem With08_any {w : World} {v vx : Value} {M : Mx} {x : List Int} (hM : MatR w v M) (hx : RowR w vx x) (hl : M.length ≤ 1000000) :
    Calls Tryz.prog 12 #[v, vx] w fun e w' => ∃ u, e = .returned u ∧ MatR w' u (M ++ [x]) ∧ Ext w w' := by
  have HX := Lib.hid hx
  have HM := Lib.hid hM
  obtain ⟨sx, cx, rfl, _⟩ := hx.len
  clear hx
  obtain ⟨sa, gb, go, cap, vs, rfl, hc, hvl, hS, hr⟩ := hM
  have Hvl := Lib.hid hvl
  have HS := Lib.hid hS
  have Hr := Lib.hid hr
  obtain ⟨n, hn⟩ : ∃ n, n = M.length := ⟨_, rfl⟩
  have Hn := Lib.hid hn
  have H1 := Lib.hid (show ∀ u ∈ vs, u.oneCell' = true from fun u hu => by
    obtain ⟨i, hi, rfl⟩ := List.getElem_of_mem hu
    exact (hr i (by omega) hi).one)
  rw [← hn] at hc hl ⊢
  clear hvl hS hr hn
  have hfin : ∀ (v2 : Value) (w2 : World), w2.ownsRow w.heap.size 32 1 v2 (n + 1) (vs ++ [.slice sx x.length cx]) → Ext w w2 → MatR w2 v2 (M ++ [x]) := fun v2 w2 h2 hE => by
    refine vs_mat (vs := vs ++ [.slice sx x.length cx]) (by simp [Hvl.out]) (by simpa [← Hn.out] using h2) fun i hi hi' => ?_
    rcases Nat.lt_or_ge i M.length with hlt | hge
    · rw [List.getElem_append_left (by rw [Hvl.out]; omega), List.getElem_append_left hlt]
      exact (Hr.out i hlt (by rw [Hvl.out]; omega)).ext hE
    · have hie : i = M.length := by simp at hi; omega
      subst hie
      rw [List.getElem_append_right (by rw [Hvl.out]; omega), List.getElem_append_right (by omega)]
      simp only [Hvl.out, Nat.sub_self, List.getElem_cons_zero]
      exact HX.out.ext hE
  have Hfin := Lib.hid hfin
  clear hfin
  have hcell : ∀ X : World, Sl (X.alloc (.cells #[.slice sx x.length cx] 32)) (some ⟨X.heap.size, 0, none⟩) X.heap.size 0 [.slice sx x.length cx] := fun X => ⟨fun _ => rfl, fun j u hj => by
    have : j = 0 := by have := (List.getElem?_eq_some_iff.1 hj).1; simp at this; omega
    subst this
    simp only [List.getElem?_cons_zero, Option.some.injEq] at hj
    subst hj
    go_simp⟩
  have HC := Lib.hid hcell
  clear hcell
  rcases Nat.eq_zero_or_pos n with h0 | h0
  · have H0 := Lib.hid h0
    have hvs : vs = [] := List.eq_nil_of_length_eq_zero (by rw [Hvl.out, ← Hn.out, h0])
    clear h0
    go_enter Tryz.func12, Tryz.ntmps12
    go_wp2_with (first
      | (at_builtin; refine app_vs0 rfl _ _ rfl (m := n) (sa := sa) (c := cap) (by go_simp) rfl H0.out ?_)
      | (at_builtin; refine app_vs rfl _ _ rfl (B := w.heap.size) (n := 0) (xs := []) (v := .slice none 0 0) (us := [.slice sx x.length cx]) rfl ⟨rfl, .inl ⟨rfl, rfl⟩⟩ rfl (HC.out _) rfl (by omega) (by simp [Value.oneCell']) (by omega) (by simp) ?_; intro v2 w2 hV2 hB2))
    go_ret
    exact ⟨_, rfl, Hfin.out _ _ (by rw [H0.out, hvs]; exact hV2) (Below.trans ((Ext.refl w).alloc _) hB2), Below.trans ((Ext.refl w).alloc _) hB2⟩
  · have hne : vs.length = n := by rw [Hvl.out, ← Hn.out]
    have Hne := Lib.hid hne
    clear hne
    go_enter Tryz.func12, Tryz.ntmps12
    go_wp2_with (first
      | (at_builtin; refine app_vs rfl _ _ rfl (B := w.heap.size) (n := 0) (xs := []) (v := .slice none 0 0) (us := vs) (sa := sa) (m := n) (c := cap) (by go_simp) ⟨rfl, .inl ⟨rfl, rfl⟩⟩ rfl HS.out Hne.out h0 H1.out (by omega) (Nat.le_refl _) ?_; intro v1 w1 hV1 hB1; have hE1 := Ext.mk' hB1; rw [Nat.zero_add, List.nil_append] at hV1; have HV1 := Lib.hid hV1; obtain ⟨g1, c1, rfl⟩ : ∃ g c, v1 = .slice (some ⟨g, 0, none⟩) n c := (by rcases hV1.2 with ⟨rfl, hz⟩ | ⟨g, c, cur, rfl, _⟩ ; (exact absurd hz (by omega)); exact ⟨g, c, rfl⟩); clear hV1 hB1)
      | (at_builtin; refine app_vs rfl _ _ rfl (B := w.heap.size) (n := n) (xs := vs) (us := [.slice sx x.length cx]) rfl (ownsRow_ext HV1.out ((Ext.refl w1).alloc _)) rfl (HC.out _) rfl (by omega) (by simp [Value.oneCell']) (by omega) (by have := hE1.size; simp; omega) ?_; intro v2 w2 hV2 hB2))
    go_ret
    exact ⟨_, rfl, Hfin.out _ _ hV2 (Below.trans (hE1.alloc _) hB2), Below.trans (hE1.alloc _) hB2⟩
end Go.Proofs.YtokjolmpdfmnbaaGreatDoor
namespace Go.Proofs.YtokjolmpdfmnbaaGreatDoor
open Hnf
theorem vr_ge {y : List Int} {i : Nat} (h : y.length ≤ i) : vr y i = 0 := by unfold vr; simp [List.getD, List.getElem?_eq_none h]
end Go.Proofs.YtokjolmpdfmnbaaGreatDoor
namespace Go.Proofs.YtokjolmpdfmnbaaGreatDoor
open Go.RowKit Go.Sort Hnf
theorem more_dvm {M : Mx} {b : List Int} (h : SmM M) (h0 : 0 < M.length) (hbl : b.length = ncols M) (hbb : ∀ z ∈ b, -40 ≤ z ∧ z ≤ 40) : DvM (M ++ [b]) (M.length + 1) (ncols M) 40 := by
  refine ⟨by simp, ?_, ?_, by have := h.n3; omega, by have := h.c3; omega, by omega, fun r hr z hz => ?_, fun k h1 h2 => ?_⟩
  · unfold ncols
    rw [List.getD_eq_getElem?_getD, List.getElem?_append_left h0, ← List.getD_eq_getElem?_getD]
  · intro r hr
    rcases List.mem_append.1 hr with hr | hr
    · exact h.rect r hr
    · rw [List.mem_singleton.1 hr]; exact hbl
  · rcases List.mem_append.1 hr with hr | hr
    · have := h.ent r hr z hz; omega
    · rw [List.mem_singleton.1 hr] at hz
      have := hbb z hz; omega
  · have := h.c3
    rcases (show k = 0 ∨ k = 1 ∨ k = 2 ∨ k = 3 by omega) with rfl | rfl | rfl | rfl <;> decide
end Go.Proofs.YtokjolmpdfmnbaaGreatDoor
namespace Go.Proofs.YtokjolmpdfmnbaaGreatDoor
open Go.RowKit Go.Sort
section
variable {w : World} {ops : Array Oper} {rest : List Oper} {o : Oper} {a : Act} {Q : Exit → Act → World → Prop}
end
theorem isH_le {n : Nat} {ps : List Nat} {K : Mx} (h : IsH n ps K) : K.length ≤ n := by
  have hk : ∀ i, i < K.length → i ≤ ps.getD i 0 := fun i => by
    induction i with
    | zero => intro _; omega
    | succ i ih => intro hi; have := ih (by omega); have := h.inc i (i + 1) (by omega) hi; omega
  rcases Nat.eq_zero_or_pos K.length with h0 | h0
  · omega
  · have := hk (K.length - 1) (by omega)
    have := h.lt (K.length - 1) (by omega)
    omega
end Go.Proofs.YtokjolmpdfmnbaaGreatDoor
namespace Go.Proofs.YtokjolmpdfmnbaaGreatDoor
open Hnf
def m2f (a b : Nat → Int) (k l : Nat) : Int := a k * b l - a l * b k
def m3f (a b c : Nat → Int) (k l p : Nat) : Int := a k * m2f b c l p - a l * m2f b c k p + a p * m2f b c k l
theorem m3f_s12 (a b c : Nat → Int) (k l p : Nat) : m3f b a c k l p = -m3f a b c k l p := by unfold m3f m2f; grind
theorem m3f_s23 (a b c : Nat → Int) (k l p : Nat) : m3f a c b k l p = -m3f a b c k l p := by unfold m3f m2f; grind
end Go.Proofs.YtokjolmpdfmnbaaGreatDoor
namespace Go.Proofs.YtokjolmpdfmnbaaGreatDoor
def kStep (E : Nat) : Nat → Nat → Nat
  | 0, K => K
  | h + 1, K => kStep E h (3 * (K + E) + 10)
theorem kStep_ge (E : Nat) : ∀ h K, K ≤ kStep E h K
  | 0, K => Nat.le_refl _
  | h + 1, K => Nat.le_trans (by omega) (kStep_ge E h (3 * (K + E) + 10))
theorem bndF_of {n E : Nat} (hE : E ≤ 10000000) : ∀ (H : Mx) (s : List (Int × Int)) (K : Nat), (∀ r ∈ H, r.length = n ∧ pv r < n ∧ r.getD (pv r) 0 ≠ 0 ∧ ∀ i, nd (r.getD i 0) ≤ E) → s.length = n →
    (∀ i, nd (s.getD i (0, 1)).1 ≤ K ∧ nd (s.getD i (0, 1)).2 ≤ K ∧ 0 < (s.getD i (0, 1)).2) → kStep E H.length K ≤ 10000000 → BndF n H s
  | [], _, _, _, _, _, _ => trivial
  | r :: H, s, K, hr, hl, hs, hk => by
    obtain ⟨r1, r2, r3, r4⟩ := hr r (by simp)
    have hK : K ≤ 10000000 := Nat.le_trans (kStep_ge E (H.length + 1) K) hk
    have n1 : nd 1 = 1 := nd_1
    refine ⟨fun i _ => ⟨Nat.le_trans (hs i).1 hK, Nat.le_trans (hs i).2.1 hK, (hs i).2.2⟩, r2, r3, fun i _ => Nat.le_trans (r4 i) hE, bndF_of hE H _ (3 * (K + E) + 10) (fun x hx => hr x (by simp [hx])) (by rw [ordTo_length _ _ _ (Nat.le_refl _)]; exact hl) (fun i => ?_) hk⟩
    rw [ordTo_getD]
    by_cases hi : i < s.length
    · rw [if_pos hi]
      obtain ⟨p1, p2, p3⟩ := hs (pv r)
      obtain ⟨a1, a2, a3⟩ := hs i
      have e := r4 (pv r)
      have ei := r4 i
      have q0 : (s.getD (pv r) (0, 1)).2 * r.getD (pv r) 0 ≠ 0 := Int.mul_ne_zero (by omega) r3
      have q1 : nd (ordQ r s).1 ≤ K + 1 := by
        unfold ordQ qdiv qmk
        refine Nat.le_trans (nd_qn _ _) (Nat.le_trans (nd_mul _ _) ?_)
        show nd (s.getD (pv r) (0, 1)).1 + nd 1 ≤ _
        omega
      have q2 : nd (ordQ r s).2 ≤ K + E := by
        unfold ordQ qdiv qmk
        refine Nat.le_trans (nd_qd _ _) (Nat.le_trans (nd_mul _ _) ?_)
        show nd (s.getD (pv r) (0, 1)).2 + nd (r.getD (pv r) 0) ≤ _
        omega
      have q3 : 0 < (ordQ r s).2 := by unfold ordQ qdiv qmk; exact qd_pos q0
      have m1 : nd (qmul (ordQ r s) (r.getD i 0, 1)).1 ≤ K + 1 + E := by
        unfold qmul qmk
        refine Nat.le_trans (nd_qn _ _) (Nat.le_trans (nd_mul _ _) ?_)
        show nd (ordQ r s).1 + nd (r.getD i 0) ≤ _
        omega
      have m2 : nd (qmul (ordQ r s) (r.getD i 0, 1)).2 ≤ K + E + 1 := by
        unfold qmul qmk
        refine Nat.le_trans (nd_qd _ _) (Nat.le_trans (nd_mul _ _) ?_)
        show nd (ordQ r s).2 + nd 1 ≤ _
        omega
      have m3 : 0 < (qmul (ordQ r s) (r.getD i 0, 1)).2 := by
        unfold qmul qmk
        exact qd_pos (by show (ordQ r s).2 * 1 ≠ 0; omega)
      unfold ordI qsub qmk
      generalize qmul (ordQ r s) (r.getD i 0, 1) = m at *
      refine ⟨Nat.le_trans (nd_qn _ _) (Nat.le_trans (nd_sub _ _) ?_), Nat.le_trans (nd_qd _ _) (Nat.le_trans (nd_mul _ _) ?_), qd_pos (Int.mul_ne_zero (by omega) (by omega))⟩
      · have b1 := nd_mul (s.getD i (0, 1)).1 m.2
        have b2 := nd_mul m.1 (s.getD i (0, 1)).2
        omega
      · omega
    · rw [if_neg hi]
      have n0 : nd 0 ≤ nd 1 := nd_le (by simp)
      exact ⟨by show nd 0 ≤ _; omega, by show nd 1 ≤ _; omega, by show (0 : Int) < 1; omega⟩
theorem ord_bnd {c : Nat} {M H : Mx} {x : List Int} (hc : c ≤ 3) (hm : ∀ r ∈ M, ∀ z ∈ r, -9 ≤ z ∧ z ≤ 9) (hH : HnfOf c M H) (hx : x.length = c) (hb : ∀ z ∈ x, -40 ≤ z ∧ z ≤ 40) : BndF c H (x.map fun z => (z, (1 : Int))) := by
  obtain ⟨ps, hI⟩ := id hH.1
  have hs := hnf_small (by omega) (fun r hr z hz => by have := hm r hr z hz; omega) hH
  have hle := isH_le hI
  refine bndF_of (E := 25) (by omega) H _ 7 (fun r hr => ?_) (by simpa using hx) (fun i => ?_) ?_
  · obtain ⟨i, hi, rfl⟩ := List.getElem_of_mem hr
    have e : H.getD i [] = H[i] := getD_get hi _
    have hp := hI.pvs hi
    rw [e] at hp
    refine ⟨hI.rect _ (List.getElem_mem hi), by rw [← hp]; exact hI.lt i hi, ?_, fun j => nd_lt2 (E := 24) ?_⟩
    · have := hI.pos i hi
      unfold eM at this
      rw [e, hp] at this
      omega
    · have := hs i hi j
      unfold eM at this
      rw [e] at this
      omega
  · rw [List.getD_eq_getElem?_getD, List.getElem?_map]
    have n1 : nd 1 = 1 := nd_1
    have n0 : nd 0 ≤ nd 1 := nd_le (by simp)
    rcases h : x[i]? with _ | z
    · exact ⟨by show nd 0 ≤ 7; omega, by show nd 1 ≤ 7; omega, by show (0 : Int) < 1; omega⟩
    · have := hb z (List.mem_of_getElem? h)
      exact ⟨nd_lt2 (E := 6) (by show z.natAbs < _; omega), by show nd 1 ≤ 7; omega, by show (0 : Int) < 1; omega⟩
  · have h3 : H.length ≤ 3 := by omega
    rcases (show H.length = 0 ∨ H.length = 1 ∨ H.length = 2 ∨ H.length = 3 by omega) with e | e | e | e <;> rw [e] <;> decide
end Go.Proofs.YtokjolmpdfmnbaaGreatDoor
