/- Part 31 of the proof of the claim: contracts of the functions that it reaches, and plain laws; no condition. -/
import Derived.Test.YtokjolmpdfmnbaaGreatDoorW30
import Derived.Test.YtokjolmpdfmnbaaGreatDoorW12
import Derived.Test.YtokjolmpdfmnbaaGreatDoorW19
import Derived.Test.YtokjolmpdfmnbaaGreatDoorW27
import Derived.Test.YtokjolmpdfmnbaaGreatDoorW18
import Derived.BigQuiet
import Derived.Test.YtokjolmpdfmnbaaGreatDoorW03
import Derived.Test.YtokjolmpdfmnbaaGreatDoorW11
namespace Go.Proofs.YtokjolmpdfmnbaaGreatDoor
def InL (A : FM) (b : Nat → Int) : Prop := ∃ y : Nat → Int, ∀ k, b k = y 0 * A 0 k + y 1 * A 1 k + y 2 * A 2 k
def appF (A : FM) (b : Nat → Int) : FM := fun i k => if i = 3 then b k else A i k
structure TrF (A B : FM) (T : (Nat → Int) → Nat → Int) : Prop where
  inl : ∀ b, InL A b ↔ InL B (T b)
  eqv : ∀ b, Eqv (appF A b) (appF B (T b))
  mul : ∀ b (q : Int), T (fun k => q * b k) = fun k => q * T b k
  far : ∀ b : Nat → Int, (∀ k, 3 ≤ k → b k = 0) → ∀ k, 3 ≤ k → T b k = 0
theorem TrF.refl (A : FM) : TrF A A fun b => b := ⟨fun _ => Iff.rfl, fun _ => Eqv.refl _, fun _ _ => rfl, fun _ h => h⟩
theorem TrF.trans {A B C : FM} {T U : (Nat → Int) → Nat → Int} (h : TrF A B T) (g : TrF B C U) : TrF A C fun b => U (T b) :=
  ⟨fun b => (h.inl b).trans (g.inl _), fun b => (h.eqv b).trans (g.eqv _), fun b q => by rw [h.mul, g.mul], fun b hb => g.far _ (h.far b hb)⟩
theorem tr_shear {t : Nat} {f : Nat → Int} {A B : FM} (ht : t < 3) (h0 : f t = 0) (hf : f 3 = 0) (h : ∀ i k, B i k = A i k - f i * A t k) : TrF A B fun b => b := by
  refine ⟨fun b => ?_, fun b => ?_, fun _ _ => rfl, fun _ h => h⟩
  · constructor
    · rintro ⟨y, hy⟩
      refine ⟨fun i => y i + if i = t then y 0 * f 0 + y 1 * f 1 + y 2 * f 2 else 0, fun k => ?_⟩
      rw [hy k]
      simp only [h]
      rcases (show t = 0 ∨ t = 1 ∨ t = 2 by omega) with rfl | rfl | rfl <;> simp only [h0] <;> grind
    · rintro ⟨y, hy⟩
      refine ⟨fun i => y i - if i = t then y 0 * f 0 + y 1 * f 1 + y 2 * f 2 else 0, fun k => ?_⟩
      rw [hy k]
      simp only [h]
      rcases (show t = 0 ∨ t = 1 ∨ t = 2 by omega) with rfl | rfl | rfl <;> simp only [h0] <;> grind
  · refine eqv_shear (t := t) (f := f) h0 fun i k => ?_
    unfold appF
    rw [if_neg (by omega : ¬ t = 3)]
    by_cases hi : i = 3
    · rw [if_pos hi, if_pos hi, hi, hf]; simp
    · rw [if_neg hi, if_neg hi, h]
theorem tr_cshear {t : Nat} {g : Nat → Int} {A B : FM} (h0 : g t = 0) (hg : ∀ k, 3 ≤ k → g k = 0) (h : ∀ i k, B i k = A i k - g k * A i t) : TrF A B fun b k => b k - g k * b t := by
  refine ⟨fun b => ?_, fun b => ?_, fun b q => ?_, fun b hb k hk => ?_⟩
  · constructor
    · rintro ⟨y, hy⟩
      refine ⟨y, fun k => ?_⟩
      simp only [h, hy k, hy t]
      grind
    · rintro ⟨y, hy⟩
      refine ⟨y, fun k => ?_⟩
      have h1 := hy k
      have h2 := hy t
      simp only [h, h0] at h1 h2
      have h3 : b k = (b k - g k * b t) + g k * (b t - 0 * b t) := by grind
      rw [h3, h1, h2]
      grind
  · refine eqv_cshear (t := t) (g := g) h0 fun i k => ?_
    unfold appF
    by_cases hi : i = 3
    · rw [if_pos hi, if_pos hi, if_pos hi]
    · rw [if_neg hi, if_neg hi, if_neg hi, h]
  · funext k; simp only; grind
  · rw [hb k hk, hg k hk]; simp
theorem tr_neg {e : Nat → Int} {A B : FM} (he : ∀ i, e i * e i = 1) (h3 : e 3 = 1) (h : ∀ i k, B i k = e i * A i k) : TrF A B fun b => b := by
  refine ⟨fun b => ?_, fun b => ?_, fun _ _ => rfl, fun _ h => h⟩
  · have h2 : ∀ i k, A i k = e i * B i k := fun i k => by rw [h, ← Int.mul_assoc, he, Int.one_mul]
    constructor
    · rintro ⟨y, hy⟩
      refine ⟨fun i => y i * e i, fun k => ?_⟩
      rw [hy k, h2 0 k, h2 1 k, h2 2 k]; grind
    · rintro ⟨y, hy⟩
      refine ⟨fun i => y i * e i, fun k => ?_⟩
      rw [hy k, h 0 k, h 1 k, h 2 k]; grind
  · refine eqv_neg (e := e) he fun i k => ?_
    unfold appF
    by_cases hi : i = 3
    · rw [if_pos hi, if_pos hi, hi, h3, Int.one_mul]
    · rw [if_neg hi, if_neg hi, h]
theorem sx3 {t i x : Nat} (ht : t < 3) (hi : i < 3) (hx : 3 ≤ x) : sx t i x = x := by unfold sx; rw [if_neg (by omega), if_neg (by omega)]
theorem tr_perm {t i j : Nat} {u : Nat} {A B : FM} (ht : t < 3) (hi : i < 3) (hu : u < 3) (hj : j < 3) (h : ∀ x y, B x y = A (sx t i x) (sx u j y)) : TrF A B fun b y => b (sx u j y) := by
  have perm : ∀ (y : Nat → Int) (v : Nat → Int), y 0 * v 0 + y 1 * v 1 + y 2 * v 2 = y (sx t i 0) * v (sx t i 0) + y (sx t i 1) * v (sx t i 1) + y (sx t i 2) * v (sx t i 2) := fun y v => by
    rcases (show t = 0 ∨ t = 1 ∨ t = 2 by omega) with rfl | rfl | rfl <;> rcases (show i = 0 ∨ i = 1 ∨ i = 2 by omega) with rfl | rfl | rfl <;> simp [sx] <;> omega
  refine ⟨fun b => ?_, fun b => ?_, fun b q => rfl, fun b hb k hk => ?_⟩
  · constructor
    · rintro ⟨y, hy⟩
      refine ⟨fun x => y (sx t i x), fun k => ?_⟩
      simp only [h]
      rw [hy (sx u j k)]
      exact perm y fun x => A x (sx u j k)
    · rintro ⟨y, hy⟩
      refine ⟨fun x => y (sx t i x), fun k => ?_⟩
      have h1 := hy (sx u j k)
      simp only [h, sx_inv] at h1
      rw [h1, perm y fun x => A (sx t i x) k]
      simp only [sx_inv]
  · refine eqv_perm (σ := sx t i) (τ := sx u j) (sx_inv t i) (sx_inv u j) fun x y => ?_
    unfold appF
    by_cases hx : x = 3
    · rw [if_pos hx, hx, sx3 ht hi (Nat.le_refl 3), if_pos rfl]
    · have : sx t i x ≠ 3 := fun e => hx (by have := sx_inv t i x; rw [e, sx3 ht hi (Nat.le_refl 3)] at this; omega)
      rw [if_neg hx, if_neg this, h]
  · rw [sx3 hu hj hk]; exact hb k hk
theorem tr_clear {n c t : Nat} {s : Dg} (h : ShD n c s) (hn : n ≤ 3) (hc : c ≤ 3) (ht : t < n) (htc : t < c) : ∃ T, TrF (eM s.a) (eM (clearD n c t s).a) T := by
  obtain ⟨_, h2, _, _⟩ := clear_parts h ht htc
  have e1 : TrF (eM s.a) (fun i k => if t < i then eM s.a i k - qR s t i * eM s.a t k else eM s.a i k) fun b => b := by
    refine tr_shear (t := t) (f := fun i => if t < i then qR s t i else 0) (by omega) (if_neg (by omega)) ?_ fun i k => ?_
    · rw [if_pos (by omega)]
      unfold qR
      rw [el_row (by have := h.la; omega), fdiv0]
    · split
      · rfl
      · simp
  refine ⟨_, e1.trans (tr_cshear (t := t) (g := fun k => if t < k then qC s t k else 0) (if_neg (by omega)) (fun k hk => ?_) fun i k => ?_)⟩
  · rw [if_pos (by omega)]
    unfold qC
    rw [el_col h.ra (by omega), fdiv0]
  · rw [h2]
    by_cases hk : t < k
    · rw [if_pos hk, if_pos hk]
    · rw [if_neg hk, if_neg hk]; simp
theorem tr_add {n c t i : Nat} {s : Dg} (h : ShD n c s) (hn : n ≤ 3) (ht : t < n) (hi : i < n) (hne : t ≠ i) : TrF (eM s.a) (eM (addD t i s).a) fun b => b := by
  obtain ⟨_, h2, _, _⟩ := add_parts h ht hi
  refine tr_shear (t := i) (f := fun j => if j = t then -1 else 0) (by omega) (if_neg (Ne.symm hne)) (if_neg (by omega)) fun j k => ?_
  rw [h2]
  split
  · rename_i e; rw [e]; omega
  · simp
theorem tr_pos {n c t : Nat} {s : Dg} (h : ShD n c s) (hn : n ≤ 3) (ht : t < n) : TrF (eM s.a) (eM (posD t s).a) fun b => b := by
  obtain ⟨_, h2, _, _⟩ := pos_parts h ht
  refine tr_neg (e := fun j => if j = t ∧ eM s.a t t < 0 then -1 else 1) (fun i => by split <;> rfl) (if_neg (by omega)) fun j k => ?_
  rw [h2]
  split
  · rename_i e; rw [e.1]; omega
  · simp
theorem runD_tr {E n c : Nat} {A : FM} (hn : n ≤ 3) (hc : c ≤ 3) : ∀ (f t : Nat) (s : Dg) {rank : Nat} {fin : Dg}, runD E n c f t s = some (rank, fin) → InvD n c t s → (∃ T, TrF A (eM s.a) T) → ∃ T, TrF A (eM fin.a) T
  | 0, _, _, _, _, h, _, _ => by cases h
  | f + 1, t, s, rank, fin, h, hv, he => by
    rw [runD] at h
    split at h
    · have hrn := stepD_rnd (t := t) hv.sh
      generalize hst : stepD n c t s = st at hrn h
      rcases hrn with h0 | ⟨i, k, hp, hu⟩ | ⟨i, k, q, y, hp, h1, h2, hj, hj1, hy, hy1, hbad⟩ | ⟨i, k, hp, h1, h2, h3⟩
      · injection h with h; injection h with h4 h5
        subst h5
        exact he
      all_goals
        have i0 := hp.i0
        have i1 := hp.i1
        have k0 := hp.k0
        have k1 := hp.k1
        have ht : t < n := by omega
        have htc' : t < c := by omega
        obtain ⟨hv1, _⟩ := hv.swap i0 i1 k0 k1
        obtain ⟨T0, hT0⟩ := he
        have hT1 := hT0.trans (tr_perm (by omega) (by omega) (by omega) (by omega) (swap_parts hv.sh ht i1 htc' k1).2.1)
        have hne : eM (swapD t i k s).a t t ≠ 0 := by rw [hp.piv hv.sh]; exact hp.ne
        obtain ⟨hv2, _⟩ := hv1.clear ht htc'
        obtain ⟨T2, hT2⟩ := tr_clear hv1.sh hn hc ht htc'
        have hT3 := hT1.trans hT2
      · exact runD_tr hn hc f t _ h hv2 ⟨_, hT3⟩
      · obtain ⟨hv3, _⟩ := hv2.add ht hj hj1
        exact runD_tr hn hc f t _ h hv3 ⟨_, hT3.trans (tr_add hv2.sh hn ht hj1 (by omega))⟩
      · have z1 := zcol hv1.sh ht htc' hne h1
        have z2 := zrow hv1.sh ht htc' hne h2
        obtain ⟨hv3, _⟩ := hv2.posn ht z1 z2
        exact runD_tr hn hc f (t + 1) _ h hv3 ⟨_, hT3.trans (tr_pos hv2.sh hn ht)⟩
    · cases h
theorem SmF.tr {M : Mx} (h : SmF M) : ∃ rank fin T, FinD M.length (ncols M) (eM M) rank fin ∧ TrF (eM M) (eM fin.a) T := by
  obtain ⟨f, rank, fin, hr, hf, _⟩ := h.run
  obtain ⟨T, hT⟩ := runD_tr (A := eM M) h.n3 h.c3 f 0 _ hr (start_inv h.rect) ⟨_, TrF.refl _⟩
  exact ⟨rank, fin, T, hf, hT⟩
theorem Dia.inl {A : FM} {d : Nat → Int} (h : Dia A d) {b : Nat → Int} (hb : ∀ k, 3 ≤ k → b k = 0) : InL A b ↔ ∀ k, k < 3 → d k ∣ b k := by
  constructor
  · rintro ⟨y, hy⟩ k hk
    rw [hy k, h.el, h.el, h.el]
    rcases (show k = 0 ∨ k = 1 ∨ k = 2 by omega) with rfl | rfl | rfl <;> simp <;> exact Int.dvd_mul_left _ _
  · intro hd
    obtain ⟨y0, h0⟩ := hd 0 (by omega)
    obtain ⟨y1, h1⟩ := hd 1 (by omega)
    obtain ⟨y2, h2⟩ := hd 2 (by omega)
    refine ⟨fun i => if i = 0 then y0 else if i = 1 then y1 else y2, fun k => ?_⟩
    rw [h.el, h.el, h.el]
    by_cases hk : 3 ≤ k
    · rw [hb k hk, if_neg (by omega), if_neg (by omega), if_neg (by omega)]; simp
    · rcases (show k = 0 ∨ k = 1 ∨ k = 2 by omega) with rfl | rfl | rfl
      · simp [h0, Int.mul_comm]
      · simp [h1, Int.mul_comm]
      · simp [h2, Int.mul_comm]
theorem inl_eqv {A : FM} (h3 : ∀ k, A 3 k = 0) {b : Nat → Int} (hb : InL A b) : Eqv A (appF A b) := by
  obtain ⟨y, hy⟩ := hb
  have s0 : Eqv A (appF A fun k => y 0 * A 0 k) := eqv_shear (t := 0) (f := fun i => if i = 3 then -(y 0) else 0) rfl fun i k => by
    unfold appF
    by_cases hi : i = 3
    · rw [if_pos hi, if_pos hi, hi, h3]; grind
    · rw [if_neg hi, if_neg hi]; simp
  have s1 : Eqv (appF A fun k => y 0 * A 0 k) (appF A fun k => y 0 * A 0 k + y 1 * A 1 k) := eqv_shear (t := 1) (f := fun i => if i = 3 then -(y 1) else 0) rfl fun i k => by
    unfold appF
    rw [if_neg (by omega : ¬ 1 = 3)]
    by_cases hi : i = 3
    · rw [if_pos hi, if_pos hi, if_pos hi]; grind
    · rw [if_neg hi, if_neg hi, if_neg hi]; simp
  have s2 : Eqv (appF A fun k => y 0 * A 0 k + y 1 * A 1 k) (appF A fun k => y 0 * A 0 k + y 1 * A 1 k + y 2 * A 2 k) := eqv_shear (t := 2) (f := fun i => if i = 3 then -(y 2) else 0) rfl fun i k => by
    unfold appF
    rw [if_neg (by omega : ¬ 2 = 3)]
    by_cases hi : i = 3
    · rw [if_pos hi, if_pos hi, if_pos hi]; grind
    · rw [if_neg hi, if_neg hi, if_neg hi]; simp
  have e : b = fun k => y 0 * A 0 k + y 1 * A 1 k + y 2 * A 2 k := funext hy
  rw [e]
  exact (s0.trans s1).trans s2
theorem Dia.eqv_inl {A : FM} {d : Nat → Int} (h : Dia A d) {b : Nat → Int} (he : Eqv A (appF A b)) : ∀ k, k < 3 → d k ∣ b k := by
  have r3 : ∀ k, appF A b 3 k = b k := fun k => if_pos rfl
  have r0 : ∀ i k, i ≠ 3 → appF A b i k = if i = k then d i else 0 := fun i k hi => by unfold appF; rw [if_neg hi, h.el]
  have x1 : ∀ k, d 0 ∣ b k := fun k => by
    have := (he.e1 (d 0)).1 ((h.x1 _).2 (Int.dvd_refl _)) 3 k
    rwa [r3] at this
  have x2 : ∀ k, k ≠ 0 → d 0 * d 1 ∣ d 0 * b k := fun k hk => by
    have := (he.e2 (d 0 * d 1)).1 ((h.x2 _).2 (Int.dvd_refl _)) 0 3 0 k
    unfold m2 at this
    rw [r3, r3, r0 0 0 (by omega), r0 0 k (by omega), if_pos rfl, if_neg (Ne.symm hk)] at this
    simpa using this
  have x3 : ∀ k, k ≠ 0 → k ≠ 1 → d 0 * (d 1 * d 2) ∣ d 0 * (d 1 * b k) := fun k hk hk1 => by
    have := (he.e3 (d 0 * (d 1 * d 2))).1 ((h.x3 _).2 (Int.dvd_refl _)) 0 1 3 0 1 k
    unfold m3 m2 at this
    rw [r3, r3, r3, r0 0 0 (by omega), r0 0 1 (by omega), r0 0 k (by omega), r0 1 0 (by omega), r0 1 1 (by omega), r0 1 k (by omega)] at this
    simpa [Ne.symm hk, Ne.symm hk1] using this
  have z : ∀ i j, i ≤ j → d i = 0 → d j = 0 := fun i j hij h0 => by have := h.dv i j hij; rw [h0] at this; exact Int.zero_dvd.1 this
  intro k hk
  rcases (show k = 0 ∨ k = 1 ∨ k = 2 by omega) with rfl | rfl | rfl
  · exact x1 0
  · by_cases c0 : d 0 = 0
    · have := x1 1; rw [c0] at this; rw [z 0 1 (by omega) c0]; exact this
    · exact Int.dvd_of_mul_dvd_mul_left c0 (x2 1 (by omega))
  · by_cases c0 : d 0 = 0
    · have := x1 2; rw [c0] at this; rw [z 0 2 (by omega) c0]; exact this
    · by_cases c1 : d 1 = 0
      · have := x2 2 (by omega)
        rw [c1, Int.mul_zero] at this
        rcases Int.mul_eq_zero.1 (Int.zero_dvd.1 this) with h' | h'
        · exact absurd h' c0
        · rw [h']; exact Int.dvd_zero _
      · exact Int.dvd_of_mul_dvd_mul_left c1 (Int.dvd_of_mul_dvd_mul_left c0 (x3 2 (by omega) (by omega)))
theorem SmF.inl {M : Mx} (h : SmF M) {b : Nat → Int} (hb : ∀ k, 3 ≤ k → b k = 0) : InL (eM M) b ↔ Eqv (eM M) (appF (eM M) b) := by
  obtain ⟨rank, fin, T, hf, hT⟩ := h.tr
  obtain ⟨hd, _, _⟩ := hf.dia h.n3
  constructor
  · exact inl_eqv fun k => el_row (by have := h.n3; omega) k
  · intro he
    rw [hT.inl b, hd.inl (hT.far b hb)]
    exact hd.eqv_inl ((hf.eqv.symm.trans he).trans (hT.eqv b))
end Go.Proofs.YtokjolmpdfmnbaaGreatDoor
namespace Go.Proofs.YtokjolmpdfmnbaaGreatDoor
open Hnf
section
variable {M : Mx} {n c : Nat} (hl : M.length = n) (hR : Rect c M) (hn : n ≤ 4) (hc : c ≤ 4)
include hl hR hn hc
end
end Go.Proofs.YtokjolmpdfmnbaaGreatDoor
namespace Go.Proofs.YtokjolmpdfmnbaaGreatDoor
open Go.RowKit Go.Sort
section
variable {w : World} {ops : Array Oper} {rest : List Oper} {o : Oper} {a : Act} {Q : Exit → Act → World → Prop}
end
theorem RowR.one {w : World} {v : Value} {r : List Int} (h : RowR w v r) : v.oneCell' = true := by
  obtain ⟨sa, gb, go, cap, rfl, _⟩ := h; rfl
end Go.Proofs.YtokjolmpdfmnbaaGreatDoor
namespace Go.Proofs.YtokjolmpdfmnbaaGreatDoor
open Hnf
end Go.Proofs.YtokjolmpdfmnbaaGreatDoor
namespace Go.Proofs.YtokjolmpdfmnbaaGreatDoor
open Go.RowKit Go.Sort Hnf
end Go.Proofs.YtokjolmpdfmnbaaGreatDoor
namespace Go.Proofs.YtokjolmpdfmnbaaGreatDoor
open Go.RowKit Go.Sort
section
variable {w : World} {ops : Array Oper} {rest : List Oper} {o : Oper} {a : Act} {Q : Exit → Act → World → Prop}
end
theorem isH_le {n : Nat} {ps : List Nat} {K : Mx} (h : IsH n ps K) : K.length ≤ n := by
  have hk : ∀ i, i < K.length → i ≤ ps.getD i 0 := fun i => by
    induction i with
    | zero => intro _; omega
    | succ i ih => intro hi; have := ih (by omega); have := h.inc i (i + 1) (by omega) hi; omega
  rcases Nat.eq_zero_or_pos K.length with h0 | h0
  · omega
  · have := hk (K.length - 1) (by omega)
    have := h.lt (K.length - 1) (by omega)
    omega
end Go.Proofs.YtokjolmpdfmnbaaGreatDoor
namespace Go.Proofs.YtokjolmpdfmnbaaGreatDoor
open Hnf
theorem detV_congr {P Q : Nat → Nat} {A : List V} (h4 : A.length ≤ 4) (h : ∀ i, i < A.length → P i = Q i) : detV P A = detV Q A := by
  match A, h4 with
  | [], _ => rfl
  | [a], _ => simp only [detV, h 0 (by simp)]
  | [a, b], _ => simp only [detV, h 0 (by simp), h 1 (by simp)]
  | [a, b, c], _ => simp only [detV, h 0 (by simp), h 1 (by simp), h 2 (by simp)]
  | [a, b, c, d], _ => simp only [detV, h 0 (by simp), h 1 (by simp), h 2 (by simp), h 3 (by simp)]
  | _ :: _ :: _ :: _ :: _ :: _, h => simp at h
theorem detF_V {n : Nat} {M : Mx} (hl : M.length = n) (hR : Rect n M) (hn : n ≤ 3) : detF n M = detV (fun i => i) (latM M) := by
  rcases (show n = 0 ∨ n = 1 ∨ n = 2 ∨ n = 3 by omega) with rfl | rfl | rfl | rfl
  · rw [List.eq_nil_of_length_eq_zero hl]; rfl
  · match M, hl with
    | [r], _ =>
      have := hR r (by simp)
      match r, this with
      | [a], _ => rw [detF1]; simp [detV, latM, vr]
  · match M, hl with
    | [r, s], _ =>
      have h1 := hR r (by simp)
      have h2 := hR s (by simp)
      match r, h1, s, h2 with
      | [a, b], _, [c, d], _ => rw [detF2]; simp [detV, latM, vr, det2]
  · match M, hl with
    | [r, s, t], _ =>
      have h1 := hR r (by simp)
      have h2 := hR s (by simp)
      have h3 := hR t (by simp)
      match r, h1, s, h2, t, h3 with
      | [a, b, c], _, [d, e, f], _, [g, h, i], _ => rw [detF3]; simp [detV, latM, vr, det3, det2]
theorem prP_one {P : Nat → Nat} {G : Mx} : ∀ k, (∀ i, i < k → eM G i (P i) = 1) → prP P G k = 1
  | 0, _ => rfl
  | k + 1, h => by rw [prP, prP_one k fun i hi => h i (by omega), h k (by omega)]; rfl
theorem pivP_prP {n : Nat} {ps : List Nat} {F G : Mx} (h : IsH n ps F) : ∀ i, i ≤ F.length → pivP F G i = prP (fun i => ps.getD i 0) G i
  | 0, _ => rfl
  | i + 1, hi => by rw [pivP, prP, pivP_prP h i (by omega), isH_pvi h (by omega)]
theorem uni_det {n : Nat} {M G : Mx} (hl : M.length = n) (hR : Rect n M) (hn : n ≤ 3) (hG : HnfOf n M G) : (G.length = n ∧ ∀ i, i < n → eM G i i = 1) ↔ (detF n M = 1 ∨ detF n M = -1) := by
  obtain ⟨⟨ps, hI⟩, h1, h2⟩ := hG
  have hle := isH_le hI
  rw [detF_V hl hR hn]
  have hlM : (latM M).length = n := by simp [latM, hl]
  constructor
  · rintro ⟨hg, hd⟩
    have hdi := isH_diag hI hg
    have hlG : (latM G).length = n := by simp [latM, hg]
    have e1 := (hI.det (by omega)).1
    rw [prP_one _ fun i hi => by rw [hdi i (by omega)]; exact hd i (by omega)] at e1
    rw [detV_congr (Q := fun i => i) (by omega) fun i hi => hdi i (by omega)] at e1
    have := detV_dvd (P := fun i => i) (A := latM M) (B := latM G) (by omega) (by omega) h1
    rw [e1] at this
    have := Int.natAbs_dvd_natAbs.2 this
    have := Nat.dvd_one.1 this
    omega
  · intro hd
    have hu : (detV (fun i => i) (latM M)).natAbs = 1 := by rcases hd with e | e <;> rw [e] <;> rfl
    by_cases hg : G.length = n
    · refine ⟨hg, (uni_law hI hg).2 ?_⟩
      have hdi := isH_diag hI hg
      have hlG : (latM G).length = n := by simp [latM, hg]
      obtain ⟨e1, e2⟩ := hI.det (by omega)
      rw [pivP_prP hI _ (Nat.le_refl _)]
      have := detV_dvd (P := fun i => i) (A := latM G) (B := latM M) (by omega) (by omega) h2
      rw [← detV_congr (P := fun i => ps.getD i 0) (by omega) fun i hi => hdi i (by omega), e1] at this
      have := Int.natAbs_dvd_natAbs.2 this
      rw [hu] at this
      have := Nat.dvd_one.1 this
      omega
    · exfalso
      have h0 : detV (fun i => i) ((latM G ++ List.replicate (n - 1 - G.length) Z0) ++ [Z0]) ∣ detV (fun i => i) (latM M) := by
        refine detV_dvd ?_ ?_ fun v hv => (h2 v hv).mono fun r hr => List.mem_append_left _ (List.mem_append_left _ hr)
        · simp [latM] at hlM ⊢; omega
        · simp [latM]; omega
      rw [detV_zero (by simp [latM]; omega), Int.zero_dvd] at h0
      rw [h0] at hu
      cases hu
end Go.Proofs.YtokjolmpdfmnbaaGreatDoor
namespace Go.Proofs.YtokjolmpdfmnbaaGreatDoor
open Go.RowKit Go.Sort
theorem columns_any {w : World} {v : Value} {M : Mx} (hM : MatR w v M) :
    Calls Tryz.prog 117 #[v] w fun e w' => e = .returned (.int .i64 (ncols M)) ∧ Ext w w' := by
  obtain ⟨sa, gb, go, cap, vs, rfl, hcap, hvl, hS, hr⟩ := hM
  by_cases h0 : M.length = 0
  · have hn : ncols M = 0 := by
      have : M = [] := List.eq_nil_of_length_eq_zero h0
      rw [this]; rfl
    rw [h0, hn]
    clear hS hr hvl h0 hcap hn
    go_enter Tryz.func117, Tryz.ntmps117
    go_wp2_with fail
    go_ret
    exact ⟨rfl, Ext.refl _⟩
  · have hi0 : 0 < M.length := by omega
    obtain rfl := hS.addr (by rw [hvl]; omega)
    obtain ⟨s0, b0, o0, c0, hrow0, hrc0, hS0⟩ := MatR.row hS hvl hr hi0
    have hn : M[0].length = ncols M := by unfold ncols; rw [getD_get hi0]
    rw [hn, Nat.add_zero] at hrow0
    have hb : ((M.length : Int) == 0) = false := beq_eq_false_iff_ne.2 (by omega)
    have hb2 : ¬ (M.length : Int) = 0 := by omega
    clear hS hr hvl hn hS0 hrc0
    go_enter Tryz.func117, Tryz.ntmps117
    go_wp2_with fail
    go_ret
    exact ⟨rfl, Ext.refl _⟩
end Go.Proofs.YtokjolmpdfmnbaaGreatDoor
namespace Go.Proofs.YtokjolmpdfmnbaaGreatDoor
open Go.RowKit Go.Sort
theorem echelon_zero {v : Value} {ga : Option Addr} {L cp : Nat} {w : World} (hv : v = .slice ga L cp) : Calls Tryz.prog 119 #[v, .int .i64 0] w fun e w' => e = .returned (.int .i64 0) ∧ w' = w := by
  subst hv
  go_enter Tryz.func119, Tryz.ntmps119
  go_wp2_with fail
  go_loop [5, 14] (fun dn idx => idx = .int .i64 0 ∧ dn = .int .i64 0) (fun _ _ => 0)
  case atStart => exact ⟨rfl, rfl⟩
  case round =>
    obtain ⟨rfl, rfl⟩ := hrel
    go_wp2_with fail
    go_ret
    exact ⟨rfl, rfl⟩
theorem lines0_all {M : Mx} (h : ∀ r ∈ M, ∀ z ∈ r, -1000000000 ≤ z ∧ z ≤ 1000000000) : AllL 30 (lines0 M) := by
  intro i hi
  have hi' : i < M.length := by simpa using hi
  rw [getD_get hi, lines0_get hi']
  constructor
  · intro z hz
    have := h _ (List.getElem_mem hi') z hz
    show z.natAbs < 2 ^ 30
    have e : (2 : Nat) ^ 30 = 1073741824 := by decide
    rw [e]; omega
  · intro z hz
    show z.natAbs < 2 ^ 30
    have e : (2 : Nat) ^ 30 = 1073741824 := by decide
    rw [e]
    unfold unitR at hz
    rcases List.mem_or_eq_of_mem_set hz with hz | rfl
    · rw [List.mem_replicate] at hz; rw [hz.2]; decide
    · decide
end Go.Proofs.YtokjolmpdfmnbaaGreatDoor
namespace Go.Proofs.YtokjolmpdfmnbaaGreatDoor
open Go.RowKit Go.Sort
set_option maxRecDepth 100000 in
set_option maxHeartbeats 2000000 in
theorem take_row {w0 w : World} {ga ca gb ob gk cb : Nat} {sb : Option Addr} {k : Int} {a b : List Int} (hO : OwnV 94 w0.heap.size w ga ca (ss a)) (hB : Sl w sb gb ob (ss b)) (hne : gb ≠ ga)
    (hk : w.cell? ⟨gk, 0, none⟩ = some (I k)) (hkne : gk ≠ ga) (hlen : b.length ≤ a.length) (hl : a.length ≤ 1000000)
    (hbig : ∀ (i : Nat) (h : i < b.length) (h' : i < a.length), nd a[i] < LIM ∧ nd (k * b[i]) < LIM ∧ nd k + nd b[i] ≤ LIM) (hL : Laid w0) (hE0 : Ext w0 w) :
    Calls Tryz.prog 180 #[slv ga a.length ca, .slice sb b.length cb, .pointer (some ⟨gk, 0, none⟩)] w fun e w' => e = .returned (.tuple #[]) ∧ OwnV 94 w0.heap.size w' ga ca (ss (subK k a b)) ∧ w.grownBy w' (some ga) := by
  have HL := Lib.hid hL
  have HB := Lib.hid hB
  have Hbig := Lib.hid hbig
  clear hL hB hbig
  go_enter Tryz.func180, Tryz.ntmps180
  go_wp2
  go_loopw [9] (fun idx wr => ∃ i : Nat, i ≤ b.length ∧ idx = .int .i64 i ∧ OwnV 94 w0.heap.size wr ga ca (ss (subK k a (b.take i))) ∧ w.grownBy wr (some ga)) (fun idx _ => b.length - (intOf idx).toNat)
  case atStart => exact ⟨0, by omega, by go_num, by simpa [subK_nil] using hO, World.grownBy.refl _ _⟩
  case round =>
    obtain ⟨i, hi, rfl, hOr, hG⟩ := hrel
    have hga := hO.lt.1
    by_cases hlt : i < b.length
    · have hia : i < a.length := by omega
      obtain ⟨x, hx⟩ : ∃ x, x = a[i] := ⟨_, rfl⟩
      obtain ⟨y, hy⟩ : ∃ y, y = b[i] := ⟨_, rfl⟩
      obtain rfl := HB.out.addr (by simpa using (by omega : 0 < b.length))
      have cb : wr.cell? ⟨gb, ob + i, none⟩ = some (I y) := by
        refine grown_frozen_cell hG hne ?_
        rw [hy]
        exact HB.out.cell i _ (by simp [ss, hlt])
      have ca' : wr.cell? ⟨ga, i, none⟩ = some (I x) := by
        rw [hOr.cell (by simpa using hia)]
        simp only [ss, List.getElem_map]
        rw [subK_get k a _ i hia (by rw [List.length_take]; omega), hx]
      have ck : wr.cell? ⟨gk, 0, none⟩ = some (I k) := grown_frozen_cell hG hkne hk
      have fa := hOr.frozen i
      have hEr : Ext w0 wr := ext_trans_grown hE0 hG hga
      have hstep := subK_step k a b i hlt hia
      rw [← hx, ← hy] at hstep
      have Hstep := Lib.hid hstep
      obtain ⟨n1, n2, n3⟩ := Hbig.out i hlt hia
      rw [← hx] at n1
      rw [← hy] at n2 n3
      have hmul := Lib.hid (fun W hW => Mul_any (a := k) (b := y) (w := W) n3 hW)
      have hsub := Lib.hid (fun W hW => Sub_any (a := x) (b := k * y) (w := W) n1 n2 hW)
      have hyz : (Lib.itoa y == [48]) = decide (y = 0) := itoa_eq_zero y
      have hii : (i : Int) < (b.length : Int) := by omega
      clear hx hy hstep n1 n2 n3 hk hO
      by_cases hy0 : y = 0
      · rw [decide_eq_true hy0] at hyz
        have Hy0 := Lib.hid hy0
        clear hy0 hmul hsub
        go_wp2
        go_roundw
        case rel =>
          refine ⟨i + 1, by omega, by go_num, ?_, hG⟩
          rw [Hstep.out]
          have e : (subK k a (List.take i b)).set i (x - k * y) = subK k a (List.take i b) := by
            have hset : ∀ (l : List Int) (h : i < l.length), l[i] = x → l.set i x = l := fun l h e => by rw [← e]; exact List.set_getElem_self h
            rw [Hy0.out, Int.mul_zero, Int.sub_zero]
            refine hset _ (by simpa using hia) ?_
            have := hOr.cell (j := i) (by simpa using hia)
            rw [ca'] at this
            simp only [ss, List.getElem_map] at this
            have h2 := Option.some.inj this
            exact (I_inj h2).symm
          rw [e]; exact hOr
        case measure => simp [intOf] <;> omega
      · rw [decide_eq_false hy0] at hyz
        have c1 := quietC (w := wr) (fun W h => hmul.out W ((HL.out.ext hEr).ext h))
        have c2 := quietC (w := wr) (fun W h => hsub.out W ((HL.out.ext hEr).ext h))
        have k1 := cell_regrown ca'
        have k2 := cell_regrown ck
        clear hy0
        go_wp2_with fail
        refine wp_region_quiet_tail 11 (by kernel_rfl) (by kernel_rfl) ?_
        simp only [List.take_succ_cons, List.take_zero, List.drop_succ_cons, List.drop_zero]
        repeat (quiet_step (first | exact c1 _ _ | exact c2 _ _))
        refine wpQuiet_nil ?_
        intro _ hw'
        obtain ⟨⟨dq, osq⟩, hw''⟩ := hw'
        subst hw''
        have hE5 := ext_regrown wr dq osq
        have hO5 := hOr.ext hE5
        clear c1 c2 k1 k2
        generalize grow (redrawn wr dq) osq = w5 at *
        have f5 := hO5.frozen i
        have d5 := hE5.cell ca'
        obtain ⟨hO6, hG6⟩ := hO5.set i (I (x - k * y))
        rw [← ss_set, ← Hstep.out] at hO6
        have hG5 := grown_trans hG (grown_trans (grown_ext hE5 (some ga)) hG6)
        clear hE5 hO5 hG6
        go_wp2
        go_roundw
        case rel => exact ⟨i + 1, by omega, by go_num, hO6, hG5⟩
        case measure => simp [intOf] <;> omega
    · go_wp2
      go_end0
      refine ⟨rfl, ?_, hG⟩
      rw [List.take_of_length_le (by omega)] at hOr
      exact hOr
end Go.Proofs.YtokjolmpdfmnbaaGreatDoor
namespace Go.Proofs.YtokjolmpdfmnbaaGreatDoor
open Go.RowKit Go.Sort
set_option maxRecDepth 100000 in
set_option maxHeartbeats 2000000 in
theorem less_any {w0 w : World} {gx cx gy cy gb ob cb gd od cd : Nat} {sb sd : Option Addr} {k : Int} {a a2 b d : List Int}
    (hX : OwnV 94 w0.heap.size w gx cx (ss a)) (hY : OwnV 94 w0.heap.size w gy cy (ss a2)) (hxy : gx ≠ gy)
    (hB : Sl w sb gb ob (ss b)) (hbx : gb ≠ gx) (hD : Sl w sd gd od (ss d)) (hdx : gd ≠ gx) (hdy : gd ≠ gy)
    (hlen : b.length ≤ a.length) (hlen2 : d.length ≤ a2.length) (hl : a.length ≤ 1000000) (hl2 : a2.length ≤ 1000000)
    (hbig : ∀ (i : Nat) (h : i < b.length) (h' : i < a.length), nd a[i] < LIM ∧ nd (k * b[i]) < LIM ∧ nd k + nd b[i] ≤ LIM)
    (hbig2 : ∀ (i : Nat) (h : i < d.length) (h' : i < a2.length), nd a2[i] < LIM ∧ nd (k * d[i]) < LIM ∧ nd k + nd d[i] ≤ LIM) (hL : Laid w0) (hE0 : Ext w0 w) :
    Calls Tryz.prog 157 #[.agg #[slv gx a.length cx, slv gy a2.length cy], I k, .agg #[.slice sb b.length cb, .slice sd d.length cd]] w fun e w' =>
      e = .returned (.tuple #[]) ∧ OwnV 94 w0.heap.size w' gx cx (ss (subK k a b)) ∧ OwnV 94 w0.heap.size w' gy cy (ss (subK k a2 d)) ∧ Chg (fun g => g = gx ∨ g = gy) w w' := by
  have hkz : (Lib.itoa k == [48]) = decide (k = 0) := itoa_eq_zero k
  by_cases hk0 : k = 0
  · rw [decide_eq_true hk0] at hkz
    subst hk0
    rw [subK_zero a b hlen, subK_zero a2 d hlen2]
    have hE := Ext.refl w
    clear hbig hbig2 hL hlen hlen2 hl hl2 hB hD
    go_enter Tryz.func157, Tryz.ntmps157
    go_wp2
    refine bodyPost_ret (results_none rfl _ _ _) rfl ?_
    have hEW : Ext w (((w.alloc (.cells #[slv gx a.length cx, slv gy a2.length cy] 171)).alloc (.cells #[I 0] 94)).alloc (.cells #[.slice sb b.length cb, .slice sd d.length cd] 171)) := (((Ext.refl w).alloc _).alloc _).alloc _
    exact ⟨rfl, hX.ext hEW, hY.ext hEW, Chg.of_ext hEW⟩
  · rw [decide_eq_false hk0] at hkz
    have HX := Lib.hid hX
    have HY := Lib.hid hY
    have HB := Lib.hid hB
    have HD := Lib.hid hD
    have h1 := hX.lt.2
    have h2 := hY.lt.2
    clear hX hY hB hD hk0
    go_enter Tryz.func157, Tryz.ntmps157
    go_wp2_with fail
    obtain ⟨W, hW⟩ : ∃ W, W = ((w.alloc (.cells #[slv gx a.length cx, slv gy a2.length cy] 171)).alloc (.cells #[I k] 94)).alloc (.cells #[.slice sb b.length cb, .slice sd d.length cd] 171) := ⟨_, rfl⟩
    have hEW : Ext w W := by rw [hW]; exact (((Ext.refl w).alloc _).alloc _).alloc _
    have k0 : W.cell? ⟨w.heap.size + 1, 0, none⟩ = some (I k) := by rw [hW]; go_simp
    have k1 : W.cell? ⟨w.heap.size, 1, none⟩ = some (slv gy a2.length cy) := by rw [hW]; go_simp
    have k2 : W.cell? ⟨w.heap.size + 1 + 1, 1, none⟩ = some (.slice sd d.length cd) := by rw [hW]; go_simp
    rw [← hW]
    have hBig := Lib.hid hbig
    have hBig2 := Lib.hid hbig2
    have hL' := Lib.hid hL
    clear hW hbig hbig2 hL
    refine (take_row (HX.out.ext hEW) (HB.out.ext hEW) hbx k0 (by omega) hlen hl hBig.out hL'.out (hE0.trans hEW)).mono ?_
    rintro e w1 ⟨rfl, hX1, hG1⟩
    have hC1 : Chg (fun g => g = gx ∨ g = gy) W w1 := Chg.of_grown hG1 (.inl rfl)
    have k1' := grown_frozen_cell hG1 (by omega) k1
    have k2' := grown_frozen_cell hG1 (by omega) k2
    have k0' := grown_frozen_cell hG1 (by omega) k0
    have hY1 := (HY.out.ext hEW).other hG1 (by omega)
    have hD1 : Sl w1 sd gd od (ss d) := ⟨HD.out.addr, fun i x hx => grown_frozen_cell hG1 hdx ((HD.out.ext hEW).cell i x hx)⟩
    have hgx0 := HX.out.lt.1
    have hE1 : Ext w0 w1 := ext_trans_grown (hE0.trans hEW) hG1 hgx0
    have HX1 := Lib.hid hX1
    clear hG1 k0 k1 k2 hX1
    go_wp2_with fail
    refine (take_row hY1 hD1 hdy k0' (by omega) hlen2 hl2 hBig2.out hL'.out hE1).mono ?_
    rintro e w2 ⟨rfl, hY2, hG2⟩
    have hX2 := HX1.out.other hG2 hxy
    have hC2 := hC1.trans (Chg.of_grown hG2 (.inr rfl))
    clear hG2 hY1 hD1 k0' k1' k2'
    go_wp2_with fail
    go_end0
    exact ⟨rfl, hX2, hY2, (Chg.of_ext hEW).trans hC2⟩
end Go.Proofs.YtokjolmpdfmnbaaGreatDoor
namespace Go.Proofs.YtokjolmpdfmnbaaGreatDoor
open Go.RowKit Go.Sort
set_option maxRecDepth 100000 in
set_option maxHeartbeats 2000000 in
theorem turn_any {w0 w : World} {gx cx gy cy : Nat} {a a2 : List Int}
    (hX : OwnV 94 w0.heap.size w gx cx (ss a)) (hY : OwnV 94 w0.heap.size w gy cy (ss a2)) (hxy : gx ≠ gy) (hl : a.length ≤ 1000000) (hl2 : a2.length ≤ 1000000)
    (hbig : ∀ z ∈ a, nd z ≤ LIM) (hbig2 : ∀ z ∈ a2, nd z ≤ LIM) :
    Calls Tryz.prog 156 #[.agg #[slv gx a.length cx, slv gy a2.length cy]] w fun e w' =>
      e = .returned (.tuple #[]) ∧ OwnV 94 w0.heap.size w' gx cx (ss (a.map fun z => -z)) ∧ OwnV 94 w0.heap.size w' gy cy (ss (a2.map fun z => -z)) ∧ Chg (fun g => g = gx ∨ g = gy) w w' := by
  have HX := Lib.hid hX
  have HY := Lib.hid hY
  have h1 := hX.lt.2
  have h2 := hY.lt.2
  have Hb := Lib.hid hbig
  have Hb2 := Lib.hid hbig2
  clear hX hY hbig hbig2
  go_enter Tryz.func156, Tryz.ntmps156
  go_wp2_with fail
  obtain ⟨W, hW⟩ : ∃ W, W = (w.alloc (.cells #[slv gx a.length cx, slv gy a2.length cy] 171)).alloc (.cells #[slv gx a.length cx, slv gy a2.length cy] 99) := ⟨_, rfl⟩
  have hEW : Ext w W := by rw [hW]; exact ((Ext.refl w).alloc _).alloc _
  have k0 : W.cell? ⟨w.heap.size + 1, 0, none⟩ = some (slv gx a.length cx) := by rw [hW]; go_simp
  have k1 : W.cell? ⟨w.heap.size + 1, 1, none⟩ = some (slv gy a2.length cy) := by rw [hW]; go_simp
  rw [← hW]
  clear hW
  go_loopw [12] (fun idx wr => ∃ i : Nat, i ≤ 2 ∧ idx = .int .i64 i ∧ OwnV 94 w0.heap.size wr gx cx (ss (if 0 < i then a.map (fun z => -z) else a)) ∧ OwnV 94 w0.heap.size wr gy cy (ss (if 1 < i then a2.map (fun z => -z) else a2)) ∧ Chg (fun g => g = gx ∨ g = gy) W wr) (fun idx _ => 2 - (intOf idx).toNat)
  case atStart => exact ⟨0, by omega, by go_num, HX.out.ext hEW, HY.out.ext hEW, Chg.refl _ _⟩
  case round =>
    obtain ⟨i, hi, rfl, hOXr, hOYr, hC⟩ := hrel
    generalize wr = V at *
    have k0r := hC.cell (by omega) k0
    have k1r := hC.cell (by omega) k1
    rcases (show i = 0 ∨ i = 1 ∨ i = 2 by omega) with rfl | rfl | rfl
    · rw [if_neg (by omega)] at hOXr hOYr
      rw [show ((0 : Nat) : Int) = 0 from rfl]
      have hOX := hOXr
      go_wp2_with fail
      go_loopw [18] (fun jdx wi => ∃ j : Nat, j ≤ a.length ∧ jdx = .int .i64 j ∧ OwnV 94 w0.heap.size wi gx cx (ss (negTo j a)) ∧ V.grownBy wi (some gx)) (fun jdx _ => a.length - (intOf jdx).toNat)
      case atStart => exact ⟨0, by omega, by go_num, by rw [negTo_zero]; exact hOX, World.grownBy.refl _ _⟩
      case round =>
        obtain ⟨j, hj, rfl, hOj, hG⟩ := hrel
        by_cases hlt : j < a.length
        · obtain ⟨x, hx⟩ : ∃ x, x = a[j] := ⟨_, rfl⟩
          have cj : wr.cell? ⟨gx, j, none⟩ = some (I x) := by
            rw [hOj.cell (by simpa using hlt)]
            simp only [ss, List.getElem_map]
            rw [negTo_get hlt, hx]
          have hneg := Lib.hid (Neg_any (z := x) (Hb.out x (by rw [hx]; exact List.getElem_mem hlt)))
          have Hst := Lib.hid (negTo_step hlt)
          rw [← hx] at Hst
          have hjj : (j : Int) < (a.length : Int) := by omega
          clear hx hOX hOXr
          go_wp2_with fail
          refine (hneg.out _).mono ?_
          rintro e w5 ⟨rfl, hE5⟩
          have f5 := (hOj.ext hE5).frozen j
          have d5 := hE5.cell cj
          obtain ⟨hO6, hG6⟩ := (hOj.ext hE5).set j (I (-x))
          rw [← ss_set, ← Hst.out] at hO6
          have hG7 := grown_trans hG (grown_trans (grown_ext hE5 (some gx)) hG6)
          clear hE5 hOj hG6 hG
          go_wp2
          go_roundw
          case rel => exact ⟨j + 1, by omega, by go_num, hO6, hG7⟩
          case measure => simp [intOf] <;> omega
        · have hje : j = a.length := by omega
          subst hje
          rw [negTo_all] at hOj
          have hYj := hOYr.other hG (Ne.symm hxy)
          have hCj := hC.trans (Chg.of_grown hG (.inl rfl))
          go_wp2
          go_roundw
          case rel => exact ⟨1, by omega, by go_num, by rw [if_pos (by omega)]; exact hOj, by rw [if_neg (by omega)]; exact hYj, hCj⟩
          case measure => simp [intOf]
    · rw [if_pos (by omega)] at hOXr
      rw [if_neg (by omega)] at hOYr
      rw [show ((1 : Nat) : Int) = 1 from rfl]
      have hOY := hOYr
      go_wp2_with fail
      go_loopw [18] (fun jdx wi => ∃ j : Nat, j ≤ a2.length ∧ jdx = .int .i64 j ∧ OwnV 94 w0.heap.size wi gy cy (ss (negTo j a2)) ∧ V.grownBy wi (some gy)) (fun jdx _ => a2.length - (intOf jdx).toNat)
      case atStart => exact ⟨0, by omega, by go_num, by rw [negTo_zero]; exact hOY, World.grownBy.refl _ _⟩
      case round =>
        obtain ⟨j, hj, rfl, hOj, hG⟩ := hrel
        by_cases hlt : j < a2.length
        · obtain ⟨x, hx⟩ : ∃ x, x = a2[j] := ⟨_, rfl⟩
          have cj : wr.cell? ⟨gy, j, none⟩ = some (I x) := by
            rw [hOj.cell (by simpa using hlt)]
            simp only [ss, List.getElem_map]
            rw [negTo_get hlt, hx]
          have hneg := Lib.hid (Neg_any (z := x) (Hb2.out x (by rw [hx]; exact List.getElem_mem hlt)))
          have Hst := Lib.hid (negTo_step hlt)
          rw [← hx] at Hst
          have hjj : (j : Int) < (a2.length : Int) := by omega
          clear hx hOY hOYr
          go_wp2_with fail
          refine (hneg.out _).mono ?_
          rintro e w5 ⟨rfl, hE5⟩
          have f5 := (hOj.ext hE5).frozen j
          have d5 := hE5.cell cj
          obtain ⟨hO6, hG6⟩ := (hOj.ext hE5).set j (I (-x))
          rw [← ss_set, ← Hst.out] at hO6
          have hG7 := grown_trans hG (grown_trans (grown_ext hE5 (some gy)) hG6)
          clear hE5 hOj hG6 hG
          go_wp2
          go_roundw
          case rel => exact ⟨j + 1, by omega, by go_num, hO6, hG7⟩
          case measure => simp [intOf] <;> omega
        · have hje : j = a2.length := by omega
          subst hje
          rw [negTo_all] at hOj
          have hXj := hOXr.other hG hxy
          have hCj := hC.trans (Chg.of_grown hG (.inr rfl))
          go_wp2
          go_roundw
          case rel => exact ⟨2, by omega, by go_num, by rw [if_pos (by omega)]; exact hXj, by rw [if_pos (by omega)]; exact hOj, hCj⟩
          case measure => simp [intOf]
    · rw [if_pos (by omega)] at hOXr hOYr
      rw [show ((2 : Nat) : Int) = 2 from rfl]
      go_wp2
      go_end0
      exact ⟨rfl, hOXr, hOYr, (Chg.of_ext hEW).trans hC⟩
end Go.Proofs.YtokjolmpdfmnbaaGreatDoor
namespace Go.Proofs.YtokjolmpdfmnbaaGreatDoor
open Go.RowKit Go.Sort
set_option maxRecDepth 100000 in
theorem less_linesC {w0 w : World} {g n m i t E gx cx gy cy gxt cxt gyt cyt : Nat} {q : Int} {ad : List Ad} {ls : List Ln} (hLn : Lns w0.heap.size w g ad ls) (hd : Dim n m ls) (hi : i < ls.length) (ht : t < ls.length) (hne : i ≠ t)
    (hn : n ≤ 1000000) (hm : m ≤ 1000000) (hai : ad[i]? = some ⟨gx, cx, gy, cy⟩) (hat : ad[t]? = some ⟨gxt, cxt, gyt, cyt⟩)
    (hA : All (fun z => z.natAbs < 2 ^ E) (ls.getD i default)) (hB : All (fun z => z.natAbs < 2 ^ E) (ls.getD t default)) (hq : q.natAbs < 2 ^ E) (hE : 2 * E + 2 < LIM) (hL : Laid w0) (hE0 : Ext w0 w) :
    Calls Tryz.prog 157 #[.agg #[slv gx n cx, slv gy m cy], I q, .agg #[slv gxt n cxt, slv gyt m cyt]] w fun e w' =>
      e = .returned (.tuple #[]) ∧ Lns w0.heap.size w' g ad (ls.set i (lsub q (ls.getD i default) (ls.getD t default))) ∧ Ext w0 w' ∧ Chg (fun k => k = gx ∨ k = gy) w w' := by
  have hai' : i < ad.length := by rw [hLn.len]; exact hi
  have hat' : t < ad.length := by rw [hLn.len]; exact ht
  rw [List.getElem?_eq_getElem hai'] at hai
  rw [List.getElem?_eq_getElem hat'] at hat
  have eai := Option.some.inj hai
  have eat := Option.some.inj hat
  have hX := hLn.x i hi hai'
  have hY := hLn.y i hi hai'
  have hXt := hLn.x t ht hat'
  have hYt := hLn.y t ht hat'
  have hoi := hLn.own i hai'
  have hdis := hLn.dis i t hai' hat' hne
  have li := hd.get hi
  have lt := hd.get ht
  rw [getD_get hi] at hA
  rw [getD_get ht] at hB
  rw [getD_get hi, getD_get ht]
  have hwr := fun {w' : World} {l : Ln} (e1 : l.1.length = ls[i].1.length) (e2 : l.2.length = ls[i].2.length) (a : OwnV 94 w0.heap.size w' ad[i].gx ad[i].cx (ss l.1)) (b : OwnV 94 w0.heap.size w' ad[i].gy ad[i].cy (ss l.2)) (c : Chg (fun k => k = ad[i].gx ∨ k = ad[i].gy) w w') => hLn.wrote hai' hi e1 e2 a b c
  rw [eai] at hX hY hoi hdis
  rw [eat] at hXt hYt hdis
  simp only at hX hY hXt hYt hoi hdis
  have h := less_any (w0 := w0) (w := w) (gx := gx) (cx := cx) (gy := gy) (cy := cy) (k := q) (cb := cxt) (cd := cyt) hX hY hoi.2.2 hXt.sl (Ne.symm hdis.1) hYt.sl (Ne.symm hdis.2.1) (Ne.symm hdis.2.2.2) (by rw [lt.1, li.1]; exact Nat.le_refl _) (by rw [lt.2, li.2]; exact Nat.le_refl _) (by rw [li.1]; exact hn) (by rw [li.2]; exact hm)
    (less_big hA.1 hB.1 hq hE) (less_big hA.2 hB.2 hq hE) hL hE0
  rw [li.1, li.2, lt.1, lt.2] at h
  refine h.mono ?_
  rintro e w' ⟨rfl, hX', hY', hC⟩
  have hwr' := hwr (w' := w') (l := lsub q ls[i] ls[t]) (by simp [lsub]) (by simp [lsub])
  rw [eai] at hwr'
  refine ⟨rfl, hwr' hX' hY' hC, hC.ext hE0 ?_, hC⟩
  rintro k (rfl | rfl)
  · exact hX.lt.1
  · exact hY.lt.1
set_option maxRecDepth 100000 in
theorem less_lines {w0 w : World} {g n m i t E gx cx gy cy gxt cxt gyt cyt : Nat} {q : Int} {ad : List Ad} {ls : List Ln} (hLn : Lns w0.heap.size w g ad ls) (hd : Dim n m ls) (hi : i < ls.length) (ht : t < ls.length) (hne : i ≠ t)
    (hn : n ≤ 1000000) (hm : m ≤ 1000000) (hai : ad[i]? = some ⟨gx, cx, gy, cy⟩) (hat : ad[t]? = some ⟨gxt, cxt, gyt, cyt⟩)
    (hA : All (fun z => z.natAbs < 2 ^ E) (ls.getD i default)) (hB : All (fun z => z.natAbs < 2 ^ E) (ls.getD t default)) (hq : q.natAbs < 2 ^ E) (hE : 2 * E + 2 < LIM) (hL : Laid w0) (hE0 : Ext w0 w) :
    Calls Tryz.prog 157 #[.agg #[slv gx n cx, slv gy m cy], I q, .agg #[slv gxt n cxt, slv gyt m cyt]] w fun e w' =>
      e = .returned (.tuple #[]) ∧ Lns w0.heap.size w' g ad (ls.set i (lsub q (ls.getD i default) (ls.getD t default))) ∧ Ext w0 w' :=
  (less_linesC hLn hd hi ht hne hn hm hai hat hA hB hq hE hL hE0).mono fun _ _ h => ⟨h.1, h.2.1, h.2.2.1⟩
theorem turn_linesC {w0 w : World} {g n m i E gx cx gy cy : Nat} {ad : List Ad} {ls : List Ln} (hLn : Lns w0.heap.size w g ad ls) (hd : Dim n m ls) (hi : i < ls.length)
    (hn : n ≤ 1000000) (hm : m ≤ 1000000) (hai : ad[i]? = some ⟨gx, cx, gy, cy⟩) (hA : All (fun z => z.natAbs < 2 ^ E) (ls.getD i default)) (hE : 2 * E + 2 < LIM) (hE0 : Ext w0 w) :
    Calls Tryz.prog 156 #[.agg #[slv gx n cx, slv gy m cy]] w fun e w' =>
      e = .returned (.tuple #[]) ∧ Lns w0.heap.size w' g ad (ls.set i (lneg (ls.getD i default))) ∧ Ext w0 w' ∧ Chg (fun k => k = gx ∨ k = gy) w w' := by
  have hai' : i < ad.length := by rw [hLn.len]; exact hi
  rw [List.getElem?_eq_getElem hai'] at hai
  have eai := Option.some.inj hai
  have hX := hLn.x i hi hai'
  have hY := hLn.y i hi hai'
  have hoi := hLn.own i hai'
  have li := hd.get hi
  rw [getD_get hi] at hA
  rw [getD_get hi]
  have hwr := fun {w' : World} {l : Ln} (e1 : l.1.length = ls[i].1.length) (e2 : l.2.length = ls[i].2.length) (a : OwnV 94 w0.heap.size w' ad[i].gx ad[i].cx (ss l.1)) (b : OwnV 94 w0.heap.size w' ad[i].gy ad[i].cy (ss l.2)) (c : Chg (fun k => k = ad[i].gx ∨ k = ad[i].gy) w w') => hLn.wrote hai' hi e1 e2 a b c
  rw [eai] at hX hY hoi
  simp only at hX hY hoi
  have h := turn_any (w0 := w0) (w := w) (gx := gx) (cx := cx) (gy := gy) (cy := cy) hX hY hoi.2.2 (by rw [li.1]; exact hn) (by rw [li.2]; exact hm)
    (fun z hz => by have := nd_lt2 (hA.1 z hz); omega) (fun z hz => by have := nd_lt2 (hA.2 z hz); omega)
  rw [li.1, li.2] at h
  refine h.mono ?_
  rintro e w' ⟨rfl, hX', hY', hC⟩
  have hwr' := hwr (w' := w') (l := lneg ls[i]) (by simp [lneg]) (by simp [lneg])
  rw [eai] at hwr'
  refine ⟨rfl, hwr' hX' hY' hC, hC.ext hE0 ?_, hC⟩
  rintro k (rfl | rfl)
  · exact hX.lt.1
  · exact hY.lt.1
end Go.Proofs.YtokjolmpdfmnbaaGreatDoor
