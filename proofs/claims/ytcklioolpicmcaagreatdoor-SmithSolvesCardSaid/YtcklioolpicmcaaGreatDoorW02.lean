/- Part 2, beside the shared parts, of the proof of the claim: contracts and plain laws; no condition. -/
import Derived.Test.YtcklioolpicmcaaGreatDoorV01
import Derived.Test.YtcklioolpicmcaaGreatDoorV02
import Derived.Test.YtcklioolpicmcaaGreatDoorV03
import Derived.Test.YtcklioolpicmcaaGreatDoorV04
import Derived.Test.YtcklioolpicmcaaGreatDoorV05
import Derived.Test.YtcklioolpicmcaaGreatDoorV06
import Derived.Test.YtcklioolpicmcaaGreatDoorV07
import Derived.Test.YtcklioolpicmcaaGreatDoorV08
import Derived.Test.YtcklioolpicmcaaGreatDoorV09
import Derived.Test.YtcklioolpicmcaaGreatDoorV10
import Derived.Test.YtcklioolpicmcaaGreatDoorV11
import Derived.Test.YtcklioolpicmcaaGreatDoorV12
import Derived.Test.YtcklioolpicmcaaGreatDoorV13
import Derived.Test.YtcklioolpicmcaaGreatDoorV14
import Derived.Test.YtcklioolpicmcaaGreatDoorV15
import Derived.Test.YtcklioolpicmcaaGreatDoorV16
import Derived.Test.YtcklioolpicmcaaGreatDoorV17
import Derived.Test.YtcklioolpicmcaaGreatDoorV18
import Derived.Test.YtcklioolpicmcaaGreatDoorV19
import Derived.Test.YtcklioolpicmcaaGreatDoorV20
import Derived.Test.YtcklioolpicmcaaGreatDoorV21
import Derived.Test.YtcklioolpicmcaaGreatDoorV22
import Derived.Test.YtcklioolpicmcaaGreatDoorV23
import Derived.Test.YtcklioolpicmcaaGreatDoorV24
import Derived.Test.YtcklioolpicmcaaGreatDoorV25
import Derived.Test.YtcklioolpicmcaaGreatDoorV26
import Derived.Test.YtcklioolpicmcaaGreatDoorV27
import Derived.Test.YtcklioolpicmcaaGreatDoorV28
import Derived.Test.YtcklioolpicmcaaGreatDoorV29
import Derived.Test.YtcklioolpicmcaaGreatDoorV30
import Derived.Test.YtcklioolpicmcaaGreatDoorW01
namespace Go.Proofs.YtcklioolpicmcaaGreatDoor
def InL (A : FM) (b : Nat → Int) : Prop := ∃ y : Nat → Int, ∀ k, b k = y 0 * A 0 k + y 1 * A 1 k + y 2 * A 2 k
def appF (A : FM) (b : Nat → Int) : FM := fun i k => if i = 3 then b k else A i k
structure TrF (A B : FM) (T : (Nat → Int) → Nat → Int) : Prop where
  inl : ∀ b, InL A b ↔ InL B (T b)
  eqv : ∀ b, Eqv (appF A b) (appF B (T b))
  mul : ∀ b (q : Int), T (fun k => q * b k) = fun k => q * T b k
  far : ∀ b : Nat → Int, (∀ k, 3 ≤ k → b k = 0) → ∀ k, 3 ≤ k → T b k = 0
theorem TrF.refl (A : FM) : TrF A A fun b => b := ⟨fun _ => Iff.rfl, fun _ => Eqv.refl _, fun _ _ => rfl, fun _ h => h⟩
theorem TrF.trans {A B C : FM} {T U : (Nat → Int) → Nat → Int} (h : TrF A B T) (g : TrF B C U) : TrF A C fun b => U (T b) :=
  ⟨fun b => (h.inl b).trans (g.inl _), fun b => (h.eqv b).trans (g.eqv _), fun b q => by rw [h.mul, g.mul], fun b hb => g.far _ (h.far b hb)⟩
theorem tr_shear {t : Nat} {f : Nat → Int} {A B : FM} (ht : t < 3) (h0 : f t = 0) (hf : f 3 = 0) (h : ∀ i k, B i k = A i k - f i * A t k) : TrF A B fun b => b := by
  refine ⟨fun b => ?_, fun b => ?_, fun _ _ => rfl, fun _ h => h⟩
  · constructor
    · rintro ⟨y, hy⟩
      refine ⟨fun i => y i + if i = t then y 0 * f 0 + y 1 * f 1 + y 2 * f 2 else 0, fun k => ?_⟩
      rw [hy k]
      simp only [h]
      rcases (show t = 0 ∨ t = 1 ∨ t = 2 by omega) with rfl | rfl | rfl <;> simp only [h0] <;> grind
    · rintro ⟨y, hy⟩
      refine ⟨fun i => y i - if i = t then y 0 * f 0 + y 1 * f 1 + y 2 * f 2 else 0, fun k => ?_⟩
      rw [hy k]
      simp only [h]
      rcases (show t = 0 ∨ t = 1 ∨ t = 2 by omega) with rfl | rfl | rfl <;> simp only [h0] <;> grind
  · refine eqv_shear (t := t) (f := f) h0 fun i k => ?_
    unfold appF
    rw [if_neg (by omega : ¬ t = 3)]
    by_cases hi : i = 3
    · rw [if_pos hi, if_pos hi, hi, hf]; simp
    · rw [if_neg hi, if_neg hi, h]
theorem tr_cshear {t : Nat} {g : Nat → Int} {A B : FM} (h0 : g t = 0) (hg : ∀ k, 3 ≤ k → g k = 0) (h : ∀ i k, B i k = A i k - g k * A i t) : TrF A B fun b k => b k - g k * b t := by
  refine ⟨fun b => ?_, fun b => ?_, fun b q => ?_, fun b hb k hk => ?_⟩
  · constructor
    · rintro ⟨y, hy⟩
      refine ⟨y, fun k => ?_⟩
      simp only [h, hy k, hy t]
      grind
    · rintro ⟨y, hy⟩
      refine ⟨y, fun k => ?_⟩
      have h1 := hy k
      have h2 := hy t
      simp only [h, h0] at h1 h2
      have h3 : b k = (b k - g k * b t) + g k * (b t - 0 * b t) := by grind
      rw [h3, h1, h2]
      grind
  · refine eqv_cshear (t := t) (g := g) h0 fun i k => ?_
    unfold appF
    by_cases hi : i = 3
    · rw [if_pos hi, if_pos hi, if_pos hi]
    · rw [if_neg hi, if_neg hi, if_neg hi, h]
  · funext k; simp only; grind
  · rw [hb k hk, hg k hk]; simp
theorem tr_neg {e : Nat → Int} {A B : FM} (he : ∀ i, e i * e i = 1) (h3 : e 3 = 1) (h : ∀ i k, B i k = e i * A i k) : TrF A B fun b => b := by
  refine ⟨fun b => ?_, fun b => ?_, fun _ _ => rfl, fun _ h => h⟩
  · have h2 : ∀ i k, A i k = e i * B i k := fun i k => by rw [h, ← Int.mul_assoc, he, Int.one_mul]
    constructor
    · rintro ⟨y, hy⟩
      refine ⟨fun i => y i * e i, fun k => ?_⟩
      rw [hy k, h2 0 k, h2 1 k, h2 2 k]; grind
    · rintro ⟨y, hy⟩
      refine ⟨fun i => y i * e i, fun k => ?_⟩
      rw [hy k, h 0 k, h 1 k, h 2 k]; grind
  · refine eqv_neg (e := e) he fun i k => ?_
    unfold appF
    by_cases hi : i = 3
    · rw [if_pos hi, if_pos hi, hi, h3, Int.one_mul]
    · rw [if_neg hi, if_neg hi, h]
theorem sx3 {t i x : Nat} (ht : t < 3) (hi : i < 3) (hx : 3 ≤ x) : sx t i x = x := by unfold sx; rw [if_neg (by omega), if_neg (by omega)]
theorem tr_perm {t i j : Nat} {u : Nat} {A B : FM} (ht : t < 3) (hi : i < 3) (hu : u < 3) (hj : j < 3) (h : ∀ x y, B x y = A (sx t i x) (sx u j y)) : TrF A B fun b y => b (sx u j y) := by
  have perm : ∀ (y : Nat → Int) (v : Nat → Int), y 0 * v 0 + y 1 * v 1 + y 2 * v 2 = y (sx t i 0) * v (sx t i 0) + y (sx t i 1) * v (sx t i 1) + y (sx t i 2) * v (sx t i 2) := fun y v => by
    rcases (show t = 0 ∨ t = 1 ∨ t = 2 by omega) with rfl | rfl | rfl <;> rcases (show i = 0 ∨ i = 1 ∨ i = 2 by omega) with rfl | rfl | rfl <;> simp [sx] <;> omega
  refine ⟨fun b => ?_, fun b => ?_, fun b q => rfl, fun b hb k hk => ?_⟩
  · constructor
    · rintro ⟨y, hy⟩
      refine ⟨fun x => y (sx t i x), fun k => ?_⟩
      simp only [h]
      rw [hy (sx u j k)]
      exact perm y fun x => A x (sx u j k)
    · rintro ⟨y, hy⟩
      refine ⟨fun x => y (sx t i x), fun k => ?_⟩
      have h1 := hy (sx u j k)
      simp only [h, sx_inv] at h1
      rw [h1, perm y fun x => A (sx t i x) k]
      simp only [sx_inv]
  · refine eqv_perm (σ := sx t i) (τ := sx u j) (sx_inv t i) (sx_inv u j) fun x y => ?_
    unfold appF
    by_cases hx : x = 3
    · rw [if_pos hx, hx, sx3 ht hi (Nat.le_refl 3), if_pos rfl]
    · have : sx t i x ≠ 3 := fun e => hx (by have := sx_inv t i x; rw [e, sx3 ht hi (Nat.le_refl 3)] at this; omega)
      rw [if_neg hx, if_neg this, h]
  · rw [sx3 hu hj hk]; exact hb k hk
theorem tr_clear {n c t : Nat} {s : Dg} (h : ShD n c s) (hn : n ≤ 3) (hc : c ≤ 3) (ht : t < n) (htc : t < c) : ∃ T, TrF (eM s.a) (eM (clearD n c t s).a) T := by
  obtain ⟨_, h2, _, _⟩ := clear_parts h ht htc
  have e1 : TrF (eM s.a) (fun i k => if t < i then eM s.a i k - qR s t i * eM s.a t k else eM s.a i k) fun b => b := by
    refine tr_shear (t := t) (f := fun i => if t < i then qR s t i else 0) (by omega) (if_neg (by omega)) ?_ fun i k => ?_
    · rw [if_pos (by omega)]
      unfold qR
      rw [el_row (by have := h.la; omega), fdiv0]
    · split
      · rfl
      · simp
  refine ⟨_, e1.trans (tr_cshear (t := t) (g := fun k => if t < k then qC s t k else 0) (if_neg (by omega)) (fun k hk => ?_) fun i k => ?_)⟩
  · rw [if_pos (by omega)]
    unfold qC
    rw [el_col h.ra (by omega), fdiv0]
  · rw [h2]
    by_cases hk : t < k
    · rw [if_pos hk, if_pos hk]
    · rw [if_neg hk, if_neg hk]; simp
theorem tr_add {n c t i : Nat} {s : Dg} (h : ShD n c s) (hn : n ≤ 3) (ht : t < n) (hi : i < n) (hne : t ≠ i) : TrF (eM s.a) (eM (addD t i s).a) fun b => b := by
  obtain ⟨_, h2, _, _⟩ := add_parts h ht hi
  refine tr_shear (t := i) (f := fun j => if j = t then -1 else 0) (by omega) (if_neg (Ne.symm hne)) (if_neg (by omega)) fun j k => ?_
  rw [h2]
  split
  · rename_i e; rw [e]; omega
  · simp
theorem tr_pos {n c t : Nat} {s : Dg} (h : ShD n c s) (hn : n ≤ 3) (ht : t < n) : TrF (eM s.a) (eM (posD t s).a) fun b => b := by
  obtain ⟨_, h2, _, _⟩ := pos_parts h ht
  refine tr_neg (e := fun j => if j = t ∧ eM s.a t t < 0 then -1 else 1) (fun i => by split <;> rfl) (if_neg (by omega)) fun j k => ?_
  rw [h2]
  split
  · rename_i e; rw [e.1]; omega
  · simp
theorem runD_tr {E n c : Nat} {A : FM} (hn : n ≤ 3) (hc : c ≤ 3) : ∀ (f t : Nat) (s : Dg) {rank : Nat} {fin : Dg}, runD E n c f t s = some (rank, fin) → InvD n c t s → (∃ T, TrF A (eM s.a) T) → ∃ T, TrF A (eM fin.a) T
  | 0, _, _, _, _, h, _, _ => by cases h
  | f + 1, t, s, rank, fin, h, hv, he => by
    rw [runD] at h
    split at h
    · have hrn := stepD_rnd (t := t) hv.sh
      generalize hst : stepD n c t s = st at hrn h
      rcases hrn with h0 | ⟨i, k, hp, hu⟩ | ⟨i, k, q, y, hp, h1, h2, hj, hj1, hy, hy1, hbad⟩ | ⟨i, k, hp, h1, h2, h3⟩
      · injection h with h; injection h with h4 h5
        subst h5
        exact he
      all_goals
        have i0 := hp.i0
        have i1 := hp.i1
        have k0 := hp.k0
        have k1 := hp.k1
        have ht : t < n := by omega
        have htc' : t < c := by omega
        obtain ⟨hv1, _⟩ := hv.swap i0 i1 k0 k1
        obtain ⟨T0, hT0⟩ := he
        have hT1 := hT0.trans (tr_perm (by omega) (by omega) (by omega) (by omega) (swap_parts hv.sh ht i1 htc' k1).2.1)
        have hne : eM (swapD t i k s).a t t ≠ 0 := by rw [hp.piv hv.sh]; exact hp.ne
        obtain ⟨hv2, _⟩ := hv1.clear ht htc'
        obtain ⟨T2, hT2⟩ := tr_clear hv1.sh hn hc ht htc'
        have hT3 := hT1.trans hT2
      · exact runD_tr hn hc f t _ h hv2 ⟨_, hT3⟩
      · obtain ⟨hv3, _⟩ := hv2.add ht hj hj1
        exact runD_tr hn hc f t _ h hv3 ⟨_, hT3.trans (tr_add hv2.sh hn ht hj1 (by omega))⟩
      · have z1 := zcol hv1.sh ht htc' hne h1
        have z2 := zrow hv1.sh ht htc' hne h2
        obtain ⟨hv3, _⟩ := hv2.posn ht z1 z2
        exact runD_tr hn hc f (t + 1) _ h hv3 ⟨_, hT3.trans (tr_pos hv2.sh hn ht)⟩
    · cases h
theorem SmF.tr {M : Mx} (h : SmF M) : ∃ rank fin T, FinD M.length (ncols M) (eM M) rank fin ∧ TrF (eM M) (eM fin.a) T := by
  obtain ⟨f, rank, fin, hr, hf, _⟩ := h.run
  obtain ⟨T, hT⟩ := runD_tr (A := eM M) h.n3 h.c3 f 0 _ hr (start_inv h.rect) ⟨_, TrF.refl _⟩
  exact ⟨rank, fin, T, hf, hT⟩
theorem Dia.inl {A : FM} {d : Nat → Int} (h : Dia A d) {b : Nat → Int} (hb : ∀ k, 3 ≤ k → b k = 0) : InL A b ↔ ∀ k, k < 3 → d k ∣ b k := by
  constructor
  · rintro ⟨y, hy⟩ k hk
    rw [hy k, h.el, h.el, h.el]
    rcases (show k = 0 ∨ k = 1 ∨ k = 2 by omega) with rfl | rfl | rfl <;> simp <;> exact Int.dvd_mul_left _ _
  · intro hd
    obtain ⟨y0, h0⟩ := hd 0 (by omega)
    obtain ⟨y1, h1⟩ := hd 1 (by omega)
    obtain ⟨y2, h2⟩ := hd 2 (by omega)
    refine ⟨fun i => if i = 0 then y0 else if i = 1 then y1 else y2, fun k => ?_⟩
    rw [h.el, h.el, h.el]
    by_cases hk : 3 ≤ k
    · rw [hb k hk, if_neg (by omega), if_neg (by omega), if_neg (by omega)]; simp
    · rcases (show k = 0 ∨ k = 1 ∨ k = 2 by omega) with rfl | rfl | rfl
      · simp [h0, Int.mul_comm]
      · simp [h1, Int.mul_comm]
      · simp [h2, Int.mul_comm]
theorem inl_eqv {A : FM} (h3 : ∀ k, A 3 k = 0) {b : Nat → Int} (hb : InL A b) : Eqv A (appF A b) := by
  obtain ⟨y, hy⟩ := hb
  have s0 : Eqv A (appF A fun k => y 0 * A 0 k) := eqv_shear (t := 0) (f := fun i => if i = 3 then -(y 0) else 0) rfl fun i k => by
    unfold appF
    by_cases hi : i = 3
    · rw [if_pos hi, if_pos hi, hi, h3]; grind
    · rw [if_neg hi, if_neg hi]; simp
  have s1 : Eqv (appF A fun k => y 0 * A 0 k) (appF A fun k => y 0 * A 0 k + y 1 * A 1 k) := eqv_shear (t := 1) (f := fun i => if i = 3 then -(y 1) else 0) rfl fun i k => by
    unfold appF
    rw [if_neg (by omega : ¬ 1 = 3)]
    by_cases hi : i = 3
    · rw [if_pos hi, if_pos hi, if_pos hi]; grind
    · rw [if_neg hi, if_neg hi, if_neg hi]; simp
  have s2 : Eqv (appF A fun k => y 0 * A 0 k + y 1 * A 1 k) (appF A fun k => y 0 * A 0 k + y 1 * A 1 k + y 2 * A 2 k) := eqv_shear (t := 2) (f := fun i => if i = 3 then -(y 2) else 0) rfl fun i k => by
    unfold appF
    rw [if_neg (by omega : ¬ 2 = 3)]
    by_cases hi : i = 3
    · rw [if_pos hi, if_pos hi, if_pos hi]; grind
    · rw [if_neg hi, if_neg hi, if_neg hi]; simp
  have e : b = fun k => y 0 * A 0 k + y 1 * A 1 k + y 2 * A 2 k := funext hy
  rw [e]
  exact (s0.trans s1).trans s2
theorem Dia.eqv_inl {A : FM} {d : Nat → Int} (h : Dia A d) {b : Nat → Int} (he : Eqv A (appF A b)) : ∀ k, k < 3 → d k ∣ b k := by
  have r3 : ∀ k, appF A b 3 k = b k := fun k => if_pos rfl
  have r0 : ∀ i k, i ≠ 3 → appF A b i k = if i = k then d i else 0 := fun i k hi => by unfold appF; rw [if_neg hi, h.el]
  have x1 : ∀ k, d 0 ∣ b k := fun k => by
    have := (he.e1 (d 0)).1 ((h.x1 _).2 (Int.dvd_refl _)) 3 k
    rwa [r3] at this
  have x2 : ∀ k, k ≠ 0 → d 0 * d 1 ∣ d 0 * b k := fun k hk => by
    have := (he.e2 (d 0 * d 1)).1 ((h.x2 _).2 (Int.dvd_refl _)) 0 3 0 k
    unfold m2 at this
    rw [r3, r3, r0 0 0 (by omega), r0 0 k (by omega), if_pos rfl, if_neg (Ne.symm hk)] at this
    simpa using this
  have x3 : ∀ k, k ≠ 0 → k ≠ 1 → d 0 * (d 1 * d 2) ∣ d 0 * (d 1 * b k) := fun k hk hk1 => by
    have := (he.e3 (d 0 * (d 1 * d 2))).1 ((h.x3 _).2 (Int.dvd_refl _)) 0 1 3 0 1 k
    unfold m3 m2 at this
    rw [r3, r3, r3, r0 0 0 (by omega), r0 0 1 (by omega), r0 0 k (by omega), r0 1 0 (by omega), r0 1 1 (by omega), r0 1 k (by omega)] at this
    simpa [Ne.symm hk, Ne.symm hk1] using this
  have z : ∀ i j, i ≤ j → d i = 0 → d j = 0 := fun i j hij h0 => by have := h.dv i j hij; rw [h0] at this; exact Int.zero_dvd.1 this
  intro k hk
  rcases (show k = 0 ∨ k = 1 ∨ k = 2 by omega) with rfl | rfl | rfl
  · exact x1 0
  · by_cases c0 : d 0 = 0
    · have := x1 1; rw [c0] at this; rw [z 0 1 (by omega) c0]; exact this
    · exact Int.dvd_of_mul_dvd_mul_left c0 (x2 1 (by omega))
  · by_cases c0 : d 0 = 0
    · have := x1 2; rw [c0] at this; rw [z 0 2 (by omega) c0]; exact this
    · by_cases c1 : d 1 = 0
      · have := x2 2 (by omega)
        rw [c1, Int.mul_zero] at this
        rcases Int.mul_eq_zero.1 (Int.zero_dvd.1 this) with h' | h'
        · exact absurd h' c0
        · rw [h']; exact Int.dvd_zero _
      · exact Int.dvd_of_mul_dvd_mul_left c1 (Int.dvd_of_mul_dvd_mul_left c0 (x3 2 (by omega) (by omega)))
theorem SmF.inl {M : Mx} (h : SmF M) {b : Nat → Int} (hb : ∀ k, 3 ≤ k → b k = 0) : InL (eM M) b ↔ Eqv (eM M) (appF (eM M) b) := by
  obtain ⟨rank, fin, T, hf, hT⟩ := h.tr
  obtain ⟨hd, _, _⟩ := hf.dia h.n3
  constructor
  · exact inl_eqv fun k => el_row (by have := h.n3; omega) k
  · intro he
    rw [hT.inl b, hd.inl (hT.far b hb)]
    exact hd.eqv_inl ((hf.eqv.symm.trans he).trans (hT.eqv b))
end Go.Proofs.YtcklioolpicmcaaGreatDoor
namespace Go.Proofs.YtcklioolpicmcaaGreatDoor
open Hnf
theorem x12 {x : Int} {A : FM} (h : X1 x A) : X2 x A := fun i j k l => by
  unfold m2; exact Int.dvd_sub (Int.dvd_mul_of_dvd_left (h i k)) (Int.dvd_mul_of_dvd_left (h i l))
theorem x23 {x : Int} {A : FM} (h : X2 x A) : X3 x A := fun i j m k l p => by
  unfold m3; exact Int.dvd_add (Int.dvd_sub (Int.dvd_mul_of_dvd_right (h _ _ _ _)) (Int.dvd_mul_of_dvd_right (h _ _ _ _))) (Int.dvd_mul_of_dvd_right (h _ _ _ _))
section
variable {M : Mx} {n c : Nat} (hl : M.length = n) (hR : Rect c M) (hn : n ≤ 4) (hc : c ≤ 4)
include hl hR hn hc
theorem dv_chain {t : Nat} (ht : t ≤ 1) : (dvA M n c t : Int) ∣ dvA M n c (t + 1) := by
  rcases (show t = 0 ∨ t = 1 by omega) with rfl | rfl
  · exact (div2 hl hR hn hc _).2 (x12 ((div1 hl hR hn hc _).1 (Int.dvd_refl _)))
  · exact (div3 hl hR hn hc _).2 (x23 ((div2 hl hR hn hc _).1 (Int.dvd_refl _)))
omit hl hR hn hc in
theorem dv_big {t : Nat} (h : n ≤ t ∨ c ≤ t) : dvA M n c t = 0 := by
  have : (0 : Int) ∣ (dvA M n c t : Int) := by
    unfold dvA
    rw [divAll_dvd]
    intro r _ s _ a b
    have h1 := selI_le n r
    have h2 := selI_le c s
    omega
  have := Int.zero_dvd.1 this
  omega
theorem dv_far {j t : Nat} (hj : DvJ M n c j) (h : j ≤ t) (ht : t ≤ 2) : dvA M n c t = 0 := by
  obtain ⟨j1, j2, j3, j4⟩ := hj
  by_cases hb : n ≤ t ∨ c ≤ t
  · exact dv_big hb
  · have h0 := j4 (by omega) (by omega)
    have up : ∀ s, s ≤ 1 → dvA M n c s = 0 → dvA M n c (s + 1) = 0 := fun s hs h => by
      have := dv_chain hl hR hn hc hs
      rw [h] at this
      have := Int.zero_dvd.1 this
      omega
    rcases (show t = j ∨ t = j + 1 ∨ t = j + 2 by omega) with rfl | rfl | rfl
    · exact h0
    · exact up j (by omega) h0
    · exact up (j + 1) (by omega) (up j (by omega) h0)
end
theorem dv_eqv {M M' : Mx} {n n' c c' : Nat} (hl : M.length = n) (hR : Rect c M) (hn : n ≤ 4) (hc : c ≤ 4) (hl' : M'.length = n') (hR' : Rect c' M') (hn' : n' ≤ 4) (hc' : c' ≤ 4) :
    Eqv (eM M) (eM M') ↔ ∀ t, t ≤ 2 → dvA M n c t = dvA M' n' c' t := by
  constructor
  · intro h t ht
    have : (dvA M n c t : Int) = dvA M' n' c' t := by
      rcases (show t = 0 ∨ t = 1 ∨ t = 2 by omega) with rfl | rfl | rfl
      · exact eq_of_dvds (Int.natCast_nonneg _) (Int.natCast_nonneg _) fun x => by rw [div1 hl hR hn hc, div1 hl' hR' hn' hc']; exact h.e1 x
      · exact eq_of_dvds (Int.natCast_nonneg _) (Int.natCast_nonneg _) fun x => by rw [div2 hl hR hn hc, div2 hl' hR' hn' hc']; exact h.e2 x
      · exact eq_of_dvds (Int.natCast_nonneg _) (Int.natCast_nonneg _) fun x => by rw [div3 hl hR hn hc, div3 hl' hR' hn' hc']; exact h.e3 x
    omega
  · intro h
    refine ⟨fun x => ?_, fun x => ?_, fun x => ?_⟩
    · rw [← div1 hl hR hn hc, ← div1 hl' hR' hn' hc', h 0 (by omega)]
    · rw [← div2 hl hR hn hc, ← div2 hl' hR' hn' hc', h 1 (by omega)]
    · rw [← div3 hl hR hn hc, ← div3 hl' hR' hn' hc', h 2 (by omega)]
theorem qf_iff {M M' : Mx} {n n' c c' j j' : Nat} (hl : M.length = n) (hR : Rect c M) (hn : n ≤ 4) (hc : c ≤ 3) (hl' : M'.length = n') (hR' : Rect c' M') (hn' : n' ≤ 4) (hc' : c' ≤ 3) (hj : DvJ M n c j) (hj' : DvJ M' n' c' j') :
    qfL M n c j = qfL M' n' c' j' ↔ Eqv (eM M) (eM M') := by
  rw [dv_eqv hl hR hn (by omega) hl' hR' hn' (by omega)]
  have f := fun t => dv_far (t := t) hl hR hn (by omega) hj
  have f' := fun t => dv_far (t := t) hl' hR' hn' (by omega) hj'
  obtain ⟨j1, j2, j3, _⟩ := id hj
  obtain ⟨k1, k2, k3, _⟩ := id hj'
  constructor
  · intro he
    have hjj : j = j' := by
      have := congrArg List.length he
      simpa using this
    subst hjj
    have hq : ∀ t, t < j → qfE M n c t = qfE M' n' c' t := fun t ht => by
      unfold qfL at he
      exact List.map_inj_left.1 he t (List.mem_range.2 ht)
    have hs : ∀ t, t < j → dvA M n c t = dvA M' n' c' t := by
      intro t
      induction t with
      | zero =>
        intro ht
        have := hq 0 ht
        unfold qfE at this
        rw [if_pos rfl, Int.tdiv_one, if_pos rfl, Int.tdiv_one] at this
        omega
      | succ t ih =>
        intro ht
        have h1 := ih (by omega)
        have := hq (t + 1) ht
        unfold qfE at this
        rw [if_neg (by omega), if_neg (by omega), Nat.add_sub_cancel, ← h1] at this
        have d1 := dv_chain hl hR hn (show c ≤ 4 by omega) (t := t) (by omega)
        have d2 := dv_chain hl' hR' hn' (show c' ≤ 4 by omega) (t := t) (by omega)
        rw [← h1] at d2
        have e1 := Int.tdiv_mul_cancel d1
        have e2 := Int.tdiv_mul_cancel d2
        rw [this, e2] at e1
        omega
    intro t ht
    rcases Nat.lt_or_ge t j with h | h
    · exact hs t h
    · rw [f t h ht, f' t h ht]
  · intro h
    have hjj : j = j' := by
      rcases Nat.lt_trichotomy j j' with a | a | a
      · have h1 := f j (Nat.le_refl _) (by omega)
        have h2 := k3 j a
        rw [h j (by omega)] at h1
        exact absurd h1 h2
      · exact a
      · have h1 := f' j' (Nat.le_refl _) (by omega)
        have h2 := j3 j' a
        rw [← h j' (by omega)] at h1
        exact absurd h1 h2
    subst hjj
    unfold qfL
    refine List.map_congr_left fun t ht => ?_
    have := List.mem_range.1 ht
    unfold qfE
    rw [h t (by omega)]
    by_cases h0 : t = 0
    · rw [if_pos h0, if_pos h0]
    · rw [if_neg h0, if_neg h0, h (t - 1) (by omega)]
theorem snoc_el {M : Mx} {b : List Int} (i k : Nat) : eM (M ++ [b]) i k = if i = M.length then vr b k else eM M i k := by
  unfold eM vr
  rcases Nat.lt_trichotomy i M.length with h | h | h
  · rw [if_neg (by omega), show (M ++ [b]).getD i [] = M.getD i [] by rw [List.getD_eq_getElem?_getD, List.getElem?_append_left h, ← List.getD_eq_getElem?_getD]]
  · rw [if_pos h, show (M ++ [b]).getD i [] = b by rw [h, List.getD_eq_getElem?_getD, List.getElem?_append_right (Nat.le_refl _), Nat.sub_self]; rfl]
  · rw [if_neg (by omega)]
    have e1 : (M ++ [b]).getD i [] = [] := by rw [List.getD_eq_getElem?_getD, List.getElem?_eq_none (by simp; omega)]; rfl
    have e2 : M.getD i [] = [] := by rw [List.getD_eq_getElem?_getD, List.getElem?_eq_none (by omega)]; rfl
    rw [e1, e2]
theorem snoc_eqv {M : Mx} {b : List Int} (h : M.length ≤ 3) : Eqv (appF (eM M) (vr b)) (eM (M ++ [b])) := by
  refine eqv_perm (σ := fun i => if i = 3 then M.length else if i = M.length then 3 else i) (τ := fun k => k) (fun i => ?_) (fun _ => rfl) (fun i k => ?_)
  · repeat' split
    all_goals omega
  · rw [snoc_el]
    unfold appF
    by_cases h1 : i = 3
    · subst h1
      rw [if_pos rfl]
      by_cases h2 : M.length = 3
      · rw [if_pos h2, if_pos h2.symm]
      · rw [if_neg h2, if_neg (Ne.symm h2), el_row (by omega), el_row (by omega)]
    · rw [if_neg h1]
      by_cases h2 : i = M.length
      · rw [if_pos h2, if_pos h2, if_pos rfl]
      · rw [if_neg h2, if_neg h2, if_neg h1]
theorem inl_span {M : Mx} (h : M.length ≤ 3) {b : V} : InL (eM M) b ↔ Span (latM M) b := by
  rw [span_cmb]
  constructor
  · rintro ⟨y, hy⟩
    refine ⟨y, ?_⟩
    funext k
    rw [cmb_T3 h]; exact hy k
  · rintro ⟨y, rfl⟩
    exact ⟨y, fun k => cmb_T3 h y k⟩
end Go.Proofs.YtcklioolpicmcaaGreatDoor
namespace Go.Proofs.YtcklioolpicmcaaGreatDoor
open Go.RowKit Go.Sort
theorem vs_mat {B : Nat} {w : World} {v : Value} {F : Mx} {vs : List Value} (h1 : vs.length = F.length) (h2 : w.ownsRow B 32 1 v F.length vs) (hr : ∀ i (_ : i < F.length) (h' : i < vs.length), RowR w vs[i] F[i]) : MatR w v F := by
  rcases h2.2 with ⟨rfl, h0⟩ | ⟨g, cap, cur, rfl, hb, hg, hn, hm, hs, ht⟩
  · have : F = [] := List.eq_nil_of_length_eq_zero h0
    subst this
    have hv : vs = [] := List.eq_nil_of_length_eq_zero h1
    subst hv
    exact ⟨none, 0, 0, 0, [], rfl, Nat.le_refl _, rfl, Sl.nil _ _ _ _, hr⟩
  · have ho : OwnV 32 B w g cap vs := by unfold OwnV; rw [h1]; exact h2
    exact ⟨_, g, 0, cap, vs, rfl, hn, h1, ho.sl, hr⟩
section
variable {w : World} {ops : Array Oper} {rest : List Oper} {o : Oper} {a : Act} {Q : Exit → Act → World → Prop}
theorem app_vs (hgd : o.guard = none) (s x : Operand) (ho : o.op = .call { callee := .builtin .append, args := #[s, x], argTypes := #[29, 29] })
    {B n m c gb go : Nat} {v : Value} {sa : Option Addr} {xs us : List Value} (hs : a.eval s = v) (hown : w.ownsRow B 32 1 v n xs) (hx : a.eval x = .slice sa m c) (hS : Sl w sa gb go us) (hm : us.length = m) (hm0 : 0 < m) (h1 : ∀ u ∈ us, u.oneCell' = true) (hl : n + m ≤ 1000000000) (hB : B ≤ w.heap.size)
    (h : ∀ v' w', w'.ownsRow B 32 1 v' (n + m) (xs ++ us) → Below B w w' → wpList Tryz.prog ops Q rest (a.put o.dst v') w') : wpList Tryz.prog ops Q (o :: rest) a w := by
  obtain ⟨i0, hi, hz0, hz1, hz2⟩ := info_parts Tryz.infoRow
  obtain rfl := hS.addr (by omega)
  refine wpList_append_lies w hgd s x 29 ho B 32 i0 _ 1 24 Tryz.underlying29 hi hz0 hz1 hz2 rfl (by omega) v n xs hs hown ⟨gb, go, none⟩ m c us hx (by omega) ?_ h1 hm0 (by unfold maxLen; omega) (by omega) hB w.heap.size rfl ?_
  · intro j u hj
    rw [Lib.add_plain]
    exact hS.cell j u hj
  · intro g cap w' k1 k2 k3 k4
    exact h _ w' k1 (Below.grown (Below.refl _ _) k2 hB (fun q hq => (World.ownsRow.lt hown q hq).1))
theorem app_vs0 (hgd : o.guard = none) (s x : Operand) (ho : o.op = .call { callee := .builtin .append, args := #[s, x], argTypes := #[29, 29] })
    {m c : Nat} {sa : Option Addr} (hs : a.eval s = .slice none 0 0) (hx : a.eval x = .slice sa m c) (hm : m = 0)
    (h : wpList Tryz.prog ops Q rest (a.put o.dst (.slice none 0 0)) w) : wpList Tryz.prog ops Q (o :: rest) a w :=
  wpList_plain hgd fun K hK => by
    subst hm
    obtain ⟨i0, hi, hz0, hz1, hz2⟩ := info_parts Tryz.infoRow
    have hr : (Builtin.append_ #[29, 29] o.type #[.slice none 0 0, .slice sa 0 c]).run Tryz.prog w = .ok (.slice none 0 0) w := by
      rcases sa with _ | ad
      · simp [Builtin.append_, run_underlying Tryz.underlying29, sizeOf, typeInfo, hi, Builtin.lenOf, Builtin.firstCells]
      · simp [Builtin.append_, run_underlying Tryz.underlying29, sizeOf, typeInfo, hi, Builtin.lenOf, Builtin.firstCells, loadCells, loadCellsFrom]
    unfold Oper.wp execOp
    simp only [ho, resolve, invoke, builtin, Sem.run_bind, Sem.run_pure, Result.andThen_ok, List.map_toArray, List.map_cons, List.map_nil, hs, hx, hr]
    exact hK _ _ h
end
theorem RowR.one {w : World} {v : Value} {r : List Int} (h : RowR w v r) : v.oneCell' = true := by
  obtain ⟨sa, gb, go, cap, rfl, _⟩ := h; rfl
set_option maxRecDepth 100000 in
set_option maxHeartbeats 1000000 in
theorem With08_any {w : World} {v vx : Value} {M : Mx} {x : List Int} (hM : MatR w v M) (hx : RowR w vx x) (hl : M.length ≤ 1000000) :
    Calls Tryz.prog 55 #[v, vx] w fun e w' => ∃ u, e = .returned u ∧ MatR w' u (M ++ [x]) ∧ Ext w w' := by
  have HX := Lib.hid hx
  have HM := Lib.hid hM
  obtain ⟨sx, cx, rfl, _⟩ := hx.len
  clear hx
  obtain ⟨sa, gb, go, cap, vs, rfl, hc, hvl, hS, hr⟩ := hM
  have Hvl := Lib.hid hvl
  have HS := Lib.hid hS
  have Hr := Lib.hid hr
  obtain ⟨n, hn⟩ : ∃ n, n = M.length := ⟨_, rfl⟩
  have Hn := Lib.hid hn
  have H1 := Lib.hid (show ∀ u ∈ vs, u.oneCell' = true from fun u hu => by
    obtain ⟨i, hi, rfl⟩ := List.getElem_of_mem hu
    exact (hr i (by omega) hi).one)
  rw [← hn] at hc hl ⊢
  clear hvl hS hr hn
  have hfin : ∀ (v2 : Value) (w2 : World), w2.ownsRow w.heap.size 32 1 v2 (n + 1) (vs ++ [.slice sx x.length cx]) → Ext w w2 → MatR w2 v2 (M ++ [x]) := fun v2 w2 h2 hE => by
    refine vs_mat (vs := vs ++ [.slice sx x.length cx]) (by simp [Hvl.out]) (by simpa [← Hn.out] using h2) fun i hi hi' => ?_
    rcases Nat.lt_or_ge i M.length with hlt | hge
    · rw [List.getElem_append_left (by rw [Hvl.out]; omega), List.getElem_append_left hlt]
      exact (Hr.out i hlt (by rw [Hvl.out]; omega)).ext hE
    · have hie : i = M.length := by simp at hi; omega
      subst hie
      rw [List.getElem_append_right (by rw [Hvl.out]; omega), List.getElem_append_right (by omega)]
      simp only [Hvl.out, Nat.sub_self, List.getElem_cons_zero]
      exact HX.out.ext hE
  have Hfin := Lib.hid hfin
  clear hfin
  have hcell : ∀ X : World, Sl (X.alloc (.cells #[.slice sx x.length cx] 32)) (some ⟨X.heap.size, 0, none⟩) X.heap.size 0 [.slice sx x.length cx] := fun X => ⟨fun _ => rfl, fun j u hj => by
    have : j = 0 := by have := (List.getElem?_eq_some_iff.1 hj).1; simp at this; omega
    subst this
    simp only [List.getElem?_cons_zero, Option.some.injEq] at hj
    subst hj
    go_simp⟩
  have HC := Lib.hid hcell
  clear hcell
  rcases Nat.eq_zero_or_pos n with h0 | h0
  · have H0 := Lib.hid h0
    have hvs : vs = [] := List.eq_nil_of_length_eq_zero (by rw [Hvl.out, ← Hn.out, h0])
    clear h0
    go_enter Tryz.func55, Tryz.ntmps55
    go_wp2_with (first
      | (at_builtin; refine app_vs0 rfl _ _ rfl (m := n) (sa := sa) (c := cap) (by go_simp) rfl H0.out ?_)
      | (at_builtin; refine app_vs rfl _ _ rfl (B := w.heap.size) (n := 0) (xs := []) (v := .slice none 0 0) (us := [.slice sx x.length cx]) rfl ⟨rfl, .inl ⟨rfl, rfl⟩⟩ rfl (HC.out _) rfl (by omega) (by simp [Value.oneCell']) (by omega) (by simp) ?_; intro v2 w2 hV2 hB2))
    go_ret
    exact ⟨_, rfl, Hfin.out _ _ (by rw [H0.out, hvs]; exact hV2) (Below.trans ((Ext.refl w).alloc _) hB2), Below.trans ((Ext.refl w).alloc _) hB2⟩
  · have hne : vs.length = n := by rw [Hvl.out, ← Hn.out]
    have Hne := Lib.hid hne
    clear hne
    go_enter Tryz.func55, Tryz.ntmps55
    go_wp2_with (first
      | (at_builtin; refine app_vs rfl _ _ rfl (B := w.heap.size) (n := 0) (xs := []) (v := .slice none 0 0) (us := vs) (sa := sa) (m := n) (c := cap) (by go_simp) ⟨rfl, .inl ⟨rfl, rfl⟩⟩ rfl HS.out Hne.out h0 H1.out (by omega) (Nat.le_refl _) ?_; intro v1 w1 hV1 hB1; have hE1 := Ext.mk' hB1; rw [Nat.zero_add, List.nil_append] at hV1; have HV1 := Lib.hid hV1; obtain ⟨g1, c1, rfl⟩ : ∃ g c, v1 = .slice (some ⟨g, 0, none⟩) n c := (by rcases hV1.2 with ⟨rfl, hz⟩ | ⟨g, c, cur, rfl, _⟩ ; (exact absurd hz (by omega)); exact ⟨g, c, rfl⟩); clear hV1 hB1)
      | (at_builtin; refine app_vs rfl _ _ rfl (B := w.heap.size) (n := n) (xs := vs) (us := [.slice sx x.length cx]) rfl (ownsRow_ext HV1.out ((Ext.refl w1).alloc _)) rfl (HC.out _) rfl (by omega) (by simp [Value.oneCell']) (by omega) (by have := hE1.size; simp; omega) ?_; intro v2 w2 hV2 hB2))
    go_ret
    exact ⟨_, rfl, Hfin.out _ _ hV2 (Below.trans (hE1.alloc _) hB2), Below.trans (hE1.alloc _) hB2⟩
end Go.Proofs.YtcklioolpicmcaaGreatDoor
namespace Go.Proofs.YtcklioolpicmcaaGreatDoor
open Hnf
theorem bd3g {m : Nat → Nat → Int} {N : Nat} {x : Nat → Int} (hm : ∀ i j, -9 ≤ m i j ∧ m i j ≤ 9) (hN : N ≤ 3) (hz : ∀ i j, N ≤ i → m i j = 0)
    (hb : ∀ j, -1080 ≤ T3 m x j ∧ T3 m x j ≤ 1080) (hxz : ∀ i, N ≤ i → x i = 0)
    (HR : ∀ (y : Nat → Int) p, (∀ j, T3 m y j = 0) → (∀ i, N ≤ i → y i = 0) → y p ≠ 0 → (∀ i, i < p → y i = 0) → 0 ≤ x p ∧ x p ≤ (y p).natAbs) :
    (x 0).natAbs ≤ 1000000 ∧ (x 1).natAbs ≤ 1000000 ∧ (x 2).natAbs ≤ 1000000 := by
  by_cases hA : ∃ j1 j2 j3, m 0 j1 * (m 1 j2 * m 2 j3 - m 2 j2 * m 1 j3) + m 0 j2 * (m 1 j3 * m 2 j1 - m 2 j3 * m 1 j1) + m 0 j3 * (m 1 j1 * m 2 j2 - m 2 j1 * m 1 j2) ≠ 0
  · obtain ⟨j1, j2, j3, hD⟩ := hA
    have t1 := hb j1; have t2 := hb j2; have t3 := hb j3
    have mn : ∀ i i' j j', -162 ≤ m i j * m i' j' - m i' j * m i j' ∧ m i j * m i' j' - m i' j * m i j' ≤ 162 := fun i i' j j' => by
      have h1 := pb3 (hm i j) (hm i' j'); have h2 := pb3 (hm i' j) (hm i j'); omega
    have fin : ∀ {z p q r : Int}, z * (m 0 j1 * (m 1 j2 * m 2 j3 - m 2 j2 * m 1 j3) + m 0 j2 * (m 1 j3 * m 2 j1 - m 2 j3 * m 1 j1) + m 0 j3 * (m 1 j1 * m 2 j2 - m 2 j1 * m 1 j2)) = T3 m x j1 * p + T3 m x j2 * q + T3 m x j3 * r → (-162 ≤ p ∧ p ≤ 162) → (-162 ≤ q ∧ q ≤ 162) → (-162 ≤ r ∧ r ≤ 162) → z.natAbs ≤ 1000000 := fun {z p q r} h hp hq hr => by
      have h1 := bd1 h hD
      have h2 := pb3 t1 hp
      have h3 := pb3 t2 hq
      have h4 := pb3 t3 hr
      omega
    refine ⟨fin (p := m 1 j2 * m 2 j3 - m 2 j2 * m 1 j3) (q := m 1 j3 * m 2 j1 - m 2 j3 * m 1 j1) (r := m 1 j1 * m 2 j2 - m 2 j1 * m 1 j2) ?_ (mn _ _ _ _) (mn _ _ _ _) (mn _ _ _ _), fin (p := m 2 j2 * m 0 j3 - m 0 j2 * m 2 j3) (q := m 2 j3 * m 0 j1 - m 0 j3 * m 2 j1) (r := m 2 j1 * m 0 j2 - m 0 j1 * m 2 j2) ?_ (mn _ _ _ _) (mn _ _ _ _) (mn _ _ _ _), fin (p := m 0 j2 * m 1 j3 - m 1 j2 * m 0 j3) (q := m 0 j3 * m 1 j1 - m 1 j3 * m 0 j1) (r := m 0 j1 * m 1 j2 - m 1 j1 * m 0 j2) ?_ (mn _ _ _ _) (mn _ _ _ _) (mn _ _ _ _)⟩ <;> (unfold T3; clear fin mn t1 t2 t3 HR hD; grind)
  have hA' : ∀ j1 j2 j3, m 0 j1 * (m 1 j2 * m 2 j3 - m 2 j2 * m 1 j3) + m 0 j2 * (m 1 j3 * m 2 j1 - m 2 j3 * m 1 j1) + m 0 j3 * (m 1 j1 * m 2 j2 - m 2 j1 * m 1 j2) = 0 := fun j1 j2 j3 => Classical.byContradiction fun h => hA ⟨j1, j2, j3, h⟩
  clear hA
  by_cases hB : ∃ j1 j2, m 1 j1 * m 2 j2 - m 2 j1 * m 1 j2 ≠ 0 ∨ m 2 j1 * m 0 j2 - m 0 j1 * m 2 j2 ≠ 0 ∨ m 0 j1 * m 1 j2 - m 1 j1 * m 0 j2 ≠ 0
  · obtain ⟨j1, j2, hv⟩ := hB
    obtain ⟨v0, e0⟩ : ∃ v0, v0 = m 1 j1 * m 2 j2 - m 2 j1 * m 1 j2 := ⟨_, rfl⟩
    obtain ⟨v1, e1⟩ : ∃ v1, v1 = m 2 j1 * m 0 j2 - m 0 j1 * m 2 j2 := ⟨_, rfl⟩
    obtain ⟨v2, e2⟩ : ∃ v2, v2 = m 0 j1 * m 1 j2 - m 1 j1 * m 0 j2 := ⟨_, rfl⟩
    rw [← e0, ← e1, ← e2] at hv
    have r0 : -162 ≤ v0 ∧ v0 ≤ 162 := by
      have h1 := pb3 (hm 1 j1) (hm 2 j2); have h2 := pb3 (hm 2 j1) (hm 1 j2); omega
    have r1 : -162 ≤ v1 ∧ v1 ≤ 162 := by
      have h1 := pb3 (hm 2 j1) (hm 0 j2); have h2 := pb3 (hm 0 j1) (hm 2 j2); omega
    have r2 : -162 ≤ v2 ∧ v2 ≤ 162 := by
      have h1 := pb3 (hm 0 j1) (hm 1 j2); have h2 := pb3 (hm 1 j1) (hm 0 j2); omega
    by_cases hN3 : N = 3
    · obtain ⟨al, ha⟩ : ∃ al, al = T3 m x j1 := ⟨_, rfl⟩
      obtain ⟨be, hbe⟩ : ∃ be, be = T3 m x j2 := ⟨_, rfl⟩
      have ba := hb j1
      have bb := hb j2
      rw [← ha] at ba
      rw [← hbe] at bb
      have i0 : x 1 * v2 - x 2 * v1 = m 0 j1 * be - m 0 j2 * al := by rw [e1, e2, ha, hbe]; unfold T3; grind
      have i1 : x 2 * v0 - x 0 * v2 = m 1 j1 * be - m 1 j2 * al := by rw [e0, e2, ha, hbe]; unfold T3; grind
      have i2 : x 0 * v1 - x 1 * v0 = m 2 j1 * be - m 2 j2 * al := by rw [e0, e1, ha, hbe]; unfold T3; grind
      have q0 : -19440 ≤ m 0 j1 * be - m 0 j2 * al ∧ m 0 j1 * be - m 0 j2 * al ≤ 19440 := by
        have h1 := pb3 (hm 0 j1) bb; have h2 := pb3 (hm 0 j2) ba; omega
      have q1 : -19440 ≤ m 1 j1 * be - m 1 j2 * al ∧ m 1 j1 * be - m 1 j2 * al ≤ 19440 := by
        have h1 := pb3 (hm 1 j1) bb; have h2 := pb3 (hm 1 j2) ba; omega
      have q2 : -19440 ≤ m 2 j1 * be - m 2 j2 * al ∧ m 2 j1 * be - m 2 j2 * al ≤ 19440 := by
        have h1 := pb3 (hm 2 j1) bb; have h2 := pb3 (hm 2 j2) ba; omega
      generalize m 0 j1 * be - m 0 j2 * al = s0 at *
      generalize m 1 j1 * be - m 1 j2 * al = s1 at *
      generalize m 2 j1 * be - m 2 j2 * al = s2 at *
      have hT : ∀ j, T3 m (v3 v0 v1 v2) j = 0 := fun j => by
        have := hA' j1 j2 j
        unfold T3
        rw [v3_0, v3_1, v3_2, e0, e1, e2]
        grind
      have hy3 : ∀ i, N ≤ i → v3 v0 v1 v2 i = 0 := fun i hi => v3_ge _ _ _ (by omega)
      clear hA' e0 e1 e2 ha hbe ba bb hb hm
      by_cases h0 : v0 = 0
      · by_cases h1 : v1 = 0
        · have h2 : v2 ≠ 0 := by rcases hv with h | h | h; (exact absurd h0 h); (exact absurd h1 h); exact h
          have hr := HR _ 2 hT hy3 (by rw [v3_2]; exact h2) (fun i hi => by
            rcases (show i = 0 ∨ i = 1 by omega) with rfl | rfl
            · rw [v3_0]; exact h0
            · rw [v3_1]; exact h1)
          rw [v3_2] at hr
          exact ⟨lin3 (z := x 0) (V := v2) (p := x 2) (q := v0) (r := -s1) (by omega) h2 (by omega) r0 (by omega), lin3 (z := x 1) (V := v2) (p := x 2) (q := v1) (r := s0) (by omega) h2 (by omega) r1 (by omega), by omega⟩
        · have hr := HR _ 1 hT hy3 (by rw [v3_1]; exact h1) (fun i hi => by
            obtain rfl : i = 0 := by omega
            rw [v3_0]; exact h0)
          rw [v3_1] at hr
          exact ⟨lin3 (z := x 0) (V := v1) (p := x 1) (q := v0) (r := s2) (by omega) h1 (by omega) r0 (by omega), by omega, lin3 (z := x 2) (V := v1) (p := x 1) (q := v2) (r := -s0) (by omega) h1 (by omega) r2 (by omega)⟩
      · have hr := HR _ 0 hT hy3 (by rw [v3_0]; exact h0) (fun i hi => by omega)
        rw [v3_0] at hr
        exact ⟨by omega, lin3 (z := x 1) (V := v0) (p := x 0) (q := v1) (r := -s2) (by omega) h0 (by omega) r1 (by omega), lin3 (z := x 2) (V := v0) (p := x 0) (q := v2) (r := s1) (by omega) h0 (by omega) r2 (by omega)⟩
    · have hz1 := hz 2 j1 (by omega)
      have hz2 := hz 2 j2 (by omega)
      have h0 : v0 = 0 := by rw [e0, hz1, hz2]; simp
      have h1 : v1 = 0 := by rw [e1, hz1, hz2]; simp
      have h2 : v2 ≠ 0 := by rcases hv with h | h | h; (exact absurd h0 h); (exact absurd h1 h); exact h
      have t1 := hb j1
      have t2 := hb j2
      have f0 : x 0 * v2 = T3 m x j1 * m 1 j2 - T3 m x j2 * m 1 j1 := by rw [e2]; unfold T3; rw [hz1, hz2]; clear t1 t2 HR; grind
      have f1 : x 1 * v2 = T3 m x j2 * m 0 j1 - T3 m x j1 * m 0 j2 := by rw [e2]; unfold T3; rw [hz1, hz2]; clear t1 t2 HR f0; grind
      have p1 := pb3 t1 (hm 1 j2)
      have p2 := pb3 t2 (hm 1 j1)
      have p3 := pb3 t2 (hm 0 j1)
      have p4 := pb3 t1 (hm 0 j2)
      have g0 := bd1 f0 h2
      have g1 := bd1 f1 h2
      have g2 := hxz 2 (by omega)
      omega
  have hB' : ∀ j1 j2, m 1 j1 * m 2 j2 = m 2 j1 * m 1 j2 ∧ m 2 j1 * m 0 j2 = m 0 j1 * m 2 j2 ∧ m 0 j1 * m 1 j2 = m 1 j1 * m 0 j2 := fun j1 j2 => by
    have h := fun h => hB ⟨j1, j2, h⟩
    refine ⟨?_, ?_, ?_⟩
    · exact Classical.byContradiction fun h2 => h (.inl (by omega))
    · exact Classical.byContradiction fun h2 => h (.inr (.inl (by omega)))
    · exact Classical.byContradiction fun h2 => h (.inr (.inr (by omega)))
  clear hB hA'
  by_cases hC : ∃ j, m 2 j ≠ 0
  · obtain ⟨j, hj⟩ := hC
    have hN3 : N = 3 := by
      rcases Nat.lt_or_ge 2 N with h | h
      · omega
      · exact absurd (hz 2 j h) hj
    have hr0 := HR (v3 (m 2 j) 0 (-m 0 j)) 0 (fun k => by
      have := (hB' j k).2.1
      unfold T3; rw [v3_0, v3_1, v3_2, Int.neg_mul]; omega) (fun i hi => v3_ge _ _ _ (by omega)) hj (fun i hi => by omega)
    have hr1 := HR (v3 0 (m 2 j) (-m 1 j)) 1 (fun k => by
      have := (hB' j k).1
      unfold T3; rw [v3_0, v3_1, v3_2, Int.neg_mul]; omega) (fun i hi => v3_ge _ _ _ (by omega)) hj (fun i hi => by rcases (show i = 0 by omega) with rfl; rfl)
    rw [v3_0] at hr0
    rw [v3_1] at hr1
    have m2 := hm 2 j
    have h0 := pb3 (s := 9) (t := 9) (a := x 0) (by omega) (hm 0 j)
    have h1 := pb3 (s := 9) (t := 9) (a := x 1) (by omega) (hm 1 j)
    have hbj := hb j
    have he : x 2 * m 2 j = T3 m x j - x 0 * m 0 j - x 1 * m 1 j := by unfold T3; omega
    have h2 := bd1 he hj
    omega
  have h2z : ∀ j, m 2 j = 0 := fun j => Classical.byContradiction fun h => hC ⟨j, h⟩
  have hx2 : (x 2).natAbs ≤ 1000000 := by
    rcases Nat.lt_or_ge 2 N with h | h
    · have hr := HR (v3 0 0 1) 2 (fun k => by unfold T3; rw [v3_0, v3_1, v3_2, h2z k]; simp) (fun i hi => v3_ge _ _ _ (by omega)) (by rw [v3_2]; omega) (fun i hi => by
        rcases (show i = 0 ∨ i = 1 by omega) with rfl | rfl <;> rfl)
      rw [v3_2] at hr; omega
    · rw [hxz 2 h]; simp
  by_cases hC1 : ∃ j, m 1 j ≠ 0
  · obtain ⟨j, hj⟩ := hC1
    have hN2 : 2 ≤ N := by
      rcases Nat.lt_or_ge 1 N with h | h
      · omega
      · exact absurd (hz 1 j h) hj
    have hr0 := HR (v3 (m 1 j) (-m 0 j) 0) 0 (fun k => by
      have := (hB' j k).2.2
      unfold T3; rw [v3_0, v3_1, v3_2, Int.neg_mul]; omega) (fun i hi => by
      rcases (show i = 2 ∨ 3 ≤ i by omega) with rfl | h
      · rfl
      · exact v3_ge _ _ _ h) hj (fun i hi => by omega)
    rw [v3_0] at hr0
    have m1 := hm 1 j
    have h0 := pb3 (s := 9) (t := 9) (a := x 0) (by omega) (hm 0 j)
    have hbj := hb j
    have he : x 1 * m 1 j = T3 m x j - x 0 * m 0 j := by unfold T3; rw [h2z j]; omega
    have h2 := bd1 he hj
    omega
  have h1z : ∀ j, m 1 j = 0 := fun j => Classical.byContradiction fun h => hC1 ⟨j, h⟩
  have hx1 : (x 1).natAbs ≤ 1000000 := by
    rcases Nat.lt_or_ge 1 N with h | h
    · have hr := HR (v3 0 1 0) 1 (fun k => by unfold T3; rw [v3_0, v3_1, v3_2, h1z k]; simp) (fun i hi => by
        rcases (show i = 2 ∨ 3 ≤ i by omega) with rfl | h
        · rfl
        · exact v3_ge _ _ _ h) (by rw [v3_1]; omega) (fun i hi => by rcases (show i = 0 by omega) with rfl; rfl)
      rw [v3_1] at hr; omega
    · rw [hxz 1 h]; simp
  by_cases hC0 : ∃ j, m 0 j ≠ 0
  · obtain ⟨j, hj⟩ := hC0
    have hbj := hb j
    have he : x 0 * m 0 j = T3 m x j := by unfold T3; rw [h2z j, h1z j]; omega
    have h2 := bd1 he hj
    omega
  have h0z : ∀ j, m 0 j = 0 := fun j => Classical.byContradiction fun h => hC0 ⟨j, h⟩
  rcases Nat.lt_or_ge 0 N with h | h
  · have hr := HR (v3 1 0 0) 0 (fun k => by unfold T3; rw [v3_0, v3_1, v3_2, h0z k]; simp) (fun i hi => by
      rcases (show i = 1 ∨ i = 2 ∨ 3 ≤ i by omega) with rfl | rfl | h
      · rfl
      · rfl
      · exact v3_ge _ _ _ h) (by rw [v3_0]; omega) (fun i hi => by omega)
    rw [v3_0] at hr
    omega
  · exact ⟨by rw [hxz 0 h]; simp, hx1, hx2⟩
theorem ent_b {c : Nat} {M : Mx} (hM : Rect c M) (hm : ∀ r ∈ M, ∀ z ∈ r, -9 ≤ z ∧ z ≤ 9) (i j : Nat) : -9 ≤ eM M i j ∧ eM M i j ≤ 9 := by
  by_cases hi : i < M.length
  · by_cases hj : j < M[i].length
    · unfold eM; rw [getD_get hi, getD_get hj]; exact hm _ (List.getElem_mem hi) _ (List.getElem_mem hj)
    · rw [eM_col hM (by have := hM _ (List.getElem_mem hi); omega)]; omega
  · rw [eM_row (by omega)]; omega
theorem vr_ge {y : List Int} {i : Nat} (h : y.length ≤ i) : vr y i = 0 := by unfold vr; simp [List.getD, List.getElem?_eq_none h]
theorem small_of {x : List Int} (hx : x.length ≤ 3) (hb : (vr x 0).natAbs ≤ 1000000 ∧ (vr x 1).natAbs ≤ 1000000 ∧ (vr x 2).natAbs ≤ 1000000) : smallB x = true := by
  unfold smallB
  rw [List.all_eq_true]
  intro z hzm
  obtain ⟨i, hi, rfl⟩ := List.getElem_of_mem hzm
  have hz3 : (x[i]).natAbs ≤ 1000000 := by
    have e : x[i] = vr x i := by unfold vr; rw [getD_get hi]
    rw [e]
    rcases (show i = 0 ∨ i = 1 ∨ i = 2 by omega) with rfl | rfl | rfl
    · exact hb.1
    · exact hb.2.1
    · exact hb.2.2
  unfold grt
  simp only [Bool.not_eq_true', decide_eq_false_iff_not]
  omega
theorem solX_gen {c : Nat} {M H : Mx} {b : List Int} (hM : Rect c M) (hN : M.length ≤ 3) (hm : ∀ r ∈ M, ∀ z ∈ r, -9 ≤ z ∧ z ≤ 9) (hH : HnfOf (c + M.length) (wideM M) H) (hbl : b.length = c) (hb : ∀ z ∈ b, -40 ≤ z ∧ z ≤ 40) (hz : zeroL ((solL c H M.length b).take c)) :
    smallB (solX c H M.length b) = true ∧ (∀ j, j < c → cmb M (vr (solX c H M.length b)) j = vr b j) := by
  have hc := solX_cmb hM hH hbl hz
  refine ⟨?_, hc⟩
  have hxl := solX_length (n := M.length) (H := H) hbl
  obtain ⟨qs, hI, hS⟩ := krn_form hM hH
  have hcl : (negM ((solL c H M.length b).drop c)).length = M.length := by
    have : (solX c H M.length b).length = (negM ((solL c H M.length b).drop c)).length := by unfold solX; rw [redX_length]
    omega
  have hrg : ∀ i, i < (krn c H).length → 0 ≤ (solX c H M.length b).getD (qs.getD i 0) 0 ∧ (solX c H M.length b).getD (qs.getD i 0) 0 < eM (krn c H) i (qs.getD i 0) := fun i hi => redX_range hI hcl i hi
  generalize solX c H M.length b = x at *
  refine small_of (by omega) (bd3g (m := eM M) (N := M.length) (x := vr x) (ent_b hM hm) hN (fun i j h => eM_row h j) (fun j => ?_) (fun i h => vr_ge (by omega)) (fun y p hT hy hp h0 => ?_))
  · rw [← cmb_T3 hN]
    by_cases hj : j < c
    · rw [hc j hj]
      unfold vr
      rw [getD_get (by omega)]
      have := hb _ (List.getElem_mem (show j < b.length by omega))
      omega
    · rw [cmb_T3 hN]; unfold T3
      rw [eM_col hM (by omega), eM_col hM (by omega), eM_col hM (by omega)]; simp
  · have hs : Span (latM (krn c H)) y := (hS y).2 ⟨fun j _ => by rw [cmb_T3 hN]; exact hT j, hy⟩
    obtain ⟨i, hi, e, hd⟩ := hI.lead hs hp h0
    have h1 := hrg i hi
    rw [e] at h1
    have h2 : eM (krn c H) i p ≤ ((y p).natAbs : Int) := Int.le_of_dvd (by omega) (Int.dvd_natAbs.2 hd)
    unfold vr
    omega
theorem span_row {F : Mx} {i : Nat} (hi : i < F.length) : Span (latM F) (vr F[i]) := by
  refine Span.mem ?_
  unfold latM
  exact List.mem_map.2 ⟨_, List.getElem_mem hi, rfl⟩
theorem krn_small {c : Nat} {M H : Mx} (hM : Rect c M) (hN : M.length ≤ 3) (hm : ∀ r ∈ M, ∀ z ∈ r, -9 ≤ z ∧ z ≤ 9) (hH : HnfOf (c + M.length) (wideM M) H) : ∀ r ∈ krn c H, smallB r = true := by
  intro r hr
  obtain ⟨k, hk, rfl⟩ := List.getElem_of_mem hr
  obtain ⟨qs, hI, hS⟩ := krn_form hM hH
  have hl : (krn c H)[k].length = M.length := hI.rect _ (List.getElem_mem hk)
  have hself := (hS _).1 (span_row hk)
  have he : ∀ j, vr (krn c H)[k] j = eM (krn c H) k j := fun j => by unfold eM vr; rw [getD_get hk]
  refine small_of (by omega) (bd3g (m := eM M) (N := M.length) (ent_b hM hm) hN (fun i j h => eM_row h j) (fun j => ?_) hself.2 (fun y p hT hy hp h0 => ?_))
  · rw [← cmb_T3 hN]
    by_cases hj : j < c
    · rw [hself.1 j hj]; omega
    · rw [cmb_T3 hN]; unfold T3
      rw [eM_col hM (by omega), eM_col hM (by omega), eM_col hM (by omega)]; simp
  · have hs : Span (latM (krn c H)) y := (hS y).2 ⟨fun j _ => by rw [cmb_T3 hN]; exact hT j, hy⟩
    obtain ⟨i, hi, e, hd⟩ := hI.lead hs hp h0
    rw [he]
    have h1 := hI.pos i hi
    rw [e] at h1
    have h2 : eM (krn c H) i p ≤ ((y p).natAbs : Int) := Int.le_of_dvd (by omega) (Int.dvd_natAbs.2 hd)
    rcases (show i < k ∨ i = k ∨ k < i by omega) with h | h | h
    · have := hI.left k hk p (by rw [← e]; exact hI.inc i k h hk)
      omega
    · subst h; omega
    · have := hI.red k i h hi
      rw [e] at this
      omega
end Go.Proofs.YtcklioolpicmcaaGreatDoor
