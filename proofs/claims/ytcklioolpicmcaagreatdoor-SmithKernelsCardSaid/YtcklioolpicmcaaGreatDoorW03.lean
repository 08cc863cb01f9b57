/- Part 3, beside the shared parts, of the proof of the claim: contracts and plain laws; no condition. -/
import Derived.Test.YtcklioolpicmcaaGreatDoorV01
import Derived.Test.YtcklioolpicmcaaGreatDoorV02
import Derived.Test.YtcklioolpicmcaaGreatDoorV03
import Derived.Test.YtcklioolpicmcaaGreatDoorV04
import Derived.Test.YtcklioolpicmcaaGreatDoorV05
import Derived.Test.YtcklioolpicmcaaGreatDoorV06
import Derived.Test.YtcklioolpicmcaaGreatDoorV07
import Derived.Test.YtcklioolpicmcaaGreatDoorV08
import Derived.Test.YtcklioolpicmcaaGreatDoorV09
import Derived.Test.YtcklioolpicmcaaGreatDoorV10
import Derived.Test.YtcklioolpicmcaaGreatDoorV11
import Derived.Test.YtcklioolpicmcaaGreatDoorV12
import Derived.Test.YtcklioolpicmcaaGreatDoorV13
import Derived.Test.YtcklioolpicmcaaGreatDoorV14
import Derived.Test.YtcklioolpicmcaaGreatDoorV15
import Derived.Test.YtcklioolpicmcaaGreatDoorV16
import Derived.Test.YtcklioolpicmcaaGreatDoorV17
import Derived.Test.YtcklioolpicmcaaGreatDoorV18
import Derived.Test.YtcklioolpicmcaaGreatDoorV19
import Derived.Test.YtcklioolpicmcaaGreatDoorV20
import Derived.Test.YtcklioolpicmcaaGreatDoorV21
import Derived.Test.YtcklioolpicmcaaGreatDoorV22
import Derived.Test.YtcklioolpicmcaaGreatDoorV23
import Derived.Test.YtcklioolpicmcaaGreatDoorV24
import Derived.Test.YtcklioolpicmcaaGreatDoorV25
import Derived.Test.YtcklioolpicmcaaGreatDoorV26
import Derived.Test.YtcklioolpicmcaaGreatDoorV27
import Derived.Test.YtcklioolpicmcaaGreatDoorV28
import Derived.Test.YtcklioolpicmcaaGreatDoorV29
import Derived.Test.YtcklioolpicmcaaGreatDoorV30
import Derived.Test.YtcklioolpicmcaaGreatDoorW01
import Derived.Test.YtcklioolpicmcaaGreatDoorW02
namespace Go.Proofs.YtcklioolpicmcaaGreatDoor
open Hnf
def m2f (a b : Nat → Int) (k l : Nat) : Int := a k * b l - a l * b k
def m3f (a b c : Nat → Int) (k l p : Nat) : Int := a k * m2f b c l p - a l * m2f b c k p + a p * m2f b c k l
theorem dvd3 {x a b c : Int} (y0 y1 y2 : Int) (ha : x ∣ a) (hb : x ∣ b) (hc : x ∣ c) : x ∣ y0 * a + y1 * b + y2 * c :=
  Int.dvd_add (Int.dvd_add (Int.dvd_mul_of_dvd_right ha) (Int.dvd_mul_of_dvd_right hb)) (Int.dvd_mul_of_dvd_right hc)
theorem m2f_l {A : FM} {b c : Nat → Int} {x : Int} (hb : InL A b) (k l : Nat) (h : ∀ s, x ∣ m2f (A s) c k l) : x ∣ m2f b c k l := by
  obtain ⟨y, hy⟩ := hb
  have : m2f b c k l = y 0 * m2f (A 0) c k l + y 1 * m2f (A 1) c k l + y 2 * m2f (A 2) c k l := by unfold m2f; rw [hy k, hy l]; grind
  rw [this]; exact dvd3 _ _ _ (h 0) (h 1) (h 2)
theorem m2f_r {A : FM} {b c : Nat → Int} {x : Int} (hc : InL A c) (k l : Nat) (h : ∀ s, x ∣ m2f b (A s) k l) : x ∣ m2f b c k l := by
  obtain ⟨y, hy⟩ := hc
  have : m2f b c k l = y 0 * m2f b (A 0) k l + y 1 * m2f b (A 1) k l + y 2 * m2f b (A 2) k l := by unfold m2f; rw [hy k, hy l]; grind
  rw [this]; exact dvd3 _ _ _ (h 0) (h 1) (h 2)
theorem m3f_a {A : FM} {a b c : Nat → Int} {x : Int} (ha : InL A a) (k l p : Nat) (h : ∀ s, x ∣ m3f (A s) b c k l p) : x ∣ m3f a b c k l p := by
  obtain ⟨y, hy⟩ := ha
  have : m3f a b c k l p = y 0 * m3f (A 0) b c k l p + y 1 * m3f (A 1) b c k l p + y 2 * m3f (A 2) b c k l p := by
    unfold m3f; rw [hy k, hy l, hy p]; generalize m2f b c l p = u; generalize m2f b c k p = v; generalize m2f b c k l = t; grind
  rw [this]; exact dvd3 _ _ _ (h 0) (h 1) (h 2)
theorem m3f_s12 (a b c : Nat → Int) (k l p : Nat) : m3f b a c k l p = -m3f a b c k l p := by unfold m3f m2f; grind
theorem m3f_s23 (a b c : Nat → Int) (k l p : Nat) : m3f a c b k l p = -m3f a b c k l p := by unfold m3f m2f; grind
theorem m3f_b {A : FM} {a b c : Nat → Int} {x : Int} (hb : InL A b) (k l p : Nat) (h : ∀ s, x ∣ m3f a (A s) c k l p) : x ∣ m3f a b c k l p := by
  rw [m3f_s12, Int.dvd_neg]
  exact m3f_a hb k l p fun s => by rw [m3f_s12, Int.dvd_neg]; exact h s
theorem m3f_c {A : FM} {a b c : Nat → Int} {x : Int} (hc : InL A c) (k l p : Nat) (h : ∀ s, x ∣ m3f a b (A s) k l p) : x ∣ m3f a b c k l p := by
  rw [m3f_s23, Int.dvd_neg]
  exact m3f_b hc k l p fun s => by rw [m3f_s23, Int.dvd_neg]; exact h s
theorem x1_in {A B : FM} (h : ∀ i, InL A (B i)) {x : Int} (hx : X1 x A) : X1 x B := fun i k => by
  obtain ⟨y, hy⟩ := h i
  rw [hy k]; exact dvd3 _ _ _ (hx 0 k) (hx 1 k) (hx 2 k)
theorem x2_in {A B : FM} (h : ∀ i, InL A (B i)) {x : Int} (hx : X2 x A) : X2 x B := fun i j k l =>
  m2f_l (h i) k l fun s => m2f_r (h j) k l fun t => hx s t k l
theorem x3_in {A B : FM} (h : ∀ i, InL A (B i)) {x : Int} (hx : X3 x A) : X3 x B := fun i j m k l p =>
  m3f_a (h i) k l p fun s => m3f_b (h j) k l p fun t => m3f_c (h m) k l p fun u => hx s t u k l p
theorem eqv_in {A B : FM} (h : ∀ i, InL A (B i)) (g : ∀ i, InL B (A i)) : Eqv A B :=
  ⟨fun _ => ⟨x1_in h, x1_in g⟩, fun _ => ⟨x2_in h, x2_in g⟩, fun _ => ⟨x3_in h, x3_in g⟩⟩
theorem inl_rows {M F : Mx} (hM : M.length ≤ 3) (h : ∀ v ∈ latM F, Span (latM M) v) (i : Nat) : InL (eM M) (eM F i) := by
  by_cases hi : i < F.length
  · have e : eM F i = vr F[i] := by funext k; unfold eM vr; rw [getD_get hi]
    rw [inl_span hM, e]
    exact h _ (List.mem_map.2 ⟨_, List.getElem_mem hi, rfl⟩)
  · have e : eM F i = fun _ => 0 := by funext k; exact el_row (by omega) k
    rw [e]
    exact ⟨fun _ => 0, fun k => by simp⟩
theorem eqv_span {M F : Mx} (hM : M.length ≤ 3) (hF : F.length ≤ 3) (h1 : ∀ v ∈ latM F, Span (latM M) v) (h2 : ∀ v ∈ latM M, Span (latM F) v) : Eqv (eM M) (eM F) :=
  eqv_in (inl_rows hM h1) (inl_rows hF h2)
theorem x2_few {H : Mx} (h : H.length ≤ 1) : X2 0 (eM H) := fun i j k l => by
  rcases Nat.eq_zero_or_pos i with h0 | h0
  · subst h0
    rcases Nat.eq_zero_or_pos j with h1 | h1
    · subst h1; rw [m2_er]; exact Int.dvd_refl _
    · unfold m2; rw [el_row (i := j) (by omega), el_row (i := j) (by omega)]; simp
  · unfold m2; rw [el_row (i := i) (by omega), el_row (i := i) (by omega)]; simp
theorem x3_few {H : Mx} (h : H.length ≤ 2) : X3 0 (eM H) := fun i j m k l p => by
  refine sort3 (P := fun i j m => (0 : Int) ∣ m3 (eM H) i j m k l p) (fun i j m h => ?_) (fun i j m h => ?_) (fun i m => ?_) (fun i m => ?_) (fun i j m a b => ?_) i j m
  · rw [m3_s12]; exact Int.dvd_neg.2 h
  · rw [m3_s23]; exact Int.dvd_neg.2 h
  · rw [m3_e12]; exact Int.dvd_zero _
  · rw [m3_e23]; exact Int.dvd_zero _
  · unfold m3 m2; rw [el_row (i := m) (by omega) k, el_row (i := m) (by omega) l, el_row (i := m) (by omega) p]; simp
theorem wide_el {c : Nat} {M : Mx} (hR : Rect c M) {i : Nat} (h : i < M.length) (k : Nat) : eM (wideM M) i (c + k) = if k = i then 1 else 0 := by
  have := wide_vr hR h (c + k)
  rw [if_neg (by omega)] at this
  have e : eM (wideM M) i (c + k) = vr ((wideM M)[i]'(by simpa using h)) (c + k) := by unfold eM vr; rw [getD_get (show i < (wideM M).length by simpa using h)]
  rw [e, this]
  by_cases hk : k = i
  · rw [if_pos hk, if_pos (by omega)]
  · rw [if_neg hk, if_neg (by omega)]
theorem wide_ge {c : Nat} {M H : Mx} (hR : Rect c M) (hN : M.length ≤ 3) (hH : HnfOf (c + M.length) (wideM M) H) : M.length ≤ H.length := by
  rcases Nat.lt_or_ge H.length M.length with hlt | h
  · exfalso
    have hin := inl_rows (M := H) (F := wideM M) (by omega) hH.2.2
    have e := fun i (h : i < M.length) k => wide_el hR h k
    rcases (show M.length = 1 ∨ M.length = 2 ∨ M.length = 3 by omega) with hM | hM | hM
    · have h1 : X1 0 (eM H) := fun i k => by rw [el_row (by omega)]; exact Int.dvd_refl _
      have := x1_in hin h1 0 (c + 0)
      rw [e 0 (by omega) 0] at this
      simp at this
    · have := x2_in hin (x2_few (H := H) (by omega)) 0 1 (c + 0) (c + 1)
      unfold m2 at this
      rw [e 0 (by omega) 0, e 0 (by omega) 1, e 1 (by omega) 0, e 1 (by omega) 1] at this
      simp at this
    · have := x3_in hin (x3_few (H := H) (by omega)) 0 1 2 (c + 0) (c + 1) (c + 2)
      unfold m3 m2 at this
      rw [e 0 (by omega) 0, e 0 (by omega) 1, e 0 (by omega) 2, e 1 (by omega) 0, e 1 (by omega) 1, e 1 (by omega) 2, e 2 (by omega) 0, e 2 (by omega) 1, e 2 (by omega) 2] at this
      simp at this
  · exact h
theorem isH_dvj {n : Nat} {ps : List Nat} {F : Mx} (h : IsH n ps F) (h3 : F.length ≤ 3) (hn : n ≤ 4) : DvJ F F.length n F.length := by
  have hle := isH_le h
  refine ⟨Nat.le_refl _, hle, fun t ht => ?_, fun a _ => absurd a (by omega)⟩
  intro h0
  have z : ∀ i k, k < i → i < F.length → eM F i (ps.getD k 0) = 0 := fun i k hki hi => h.left i hi _ (h.inc k i hki hi)
  have d : (0 : Int) ∣ (dvA F F.length n t : Int) := by rw [h0]; exact Int.dvd_refl _
  have p0 := h.pos 0 (by omega)
  rcases (show t = 0 ∨ t = 1 ∨ t = 2 by omega) with rfl | rfl | rfl
  · have := (div1 rfl h.rect (by omega) hn 0).1 d 0 (ps.getD 0 0)
    have := Int.zero_dvd.1 this
    omega
  · have := (div2 rfl h.rect (by omega) hn 0).1 d 0 1 (ps.getD 0 0) (ps.getD 1 0)
    have := Int.zero_dvd.1 this
    have p1 := h.pos 1 ht
    unfold m2 at this
    rw [z 1 0 (by omega) ht, Int.mul_zero, Int.sub_zero] at this
    have := Int.mul_pos p0 p1
    omega
  · have := (div3 rfl h.rect (by omega) hn 0).1 d 0 1 2 (ps.getD 0 0) (ps.getD 1 0) (ps.getD 2 0)
    have := Int.zero_dvd.1 this
    have p1 := h.pos 1 (by omega)
    have p2 := h.pos 2 ht
    unfold m3 m2 at this
    rw [z 1 0 (by omega) (by omega), z 2 0 (by omega) ht, z 2 1 (by omega) ht] at this
    have q := Int.mul_pos p0 (Int.mul_pos p1 p2)
    simp only [Int.mul_zero, Int.zero_mul, Int.sub_zero, Int.add_zero] at this
    omega
theorem dvj_eq {M M' : Mx} {n n' c c' j j' : Nat} (hl : M.length = n) (hR : Rect c M) (hn : n ≤ 4) (hc : c ≤ 3) (hl' : M'.length = n') (hR' : Rect c' M') (hn' : n' ≤ 4) (hc' : c' ≤ 3) (hj : DvJ M n c j) (hj' : DvJ M' n' c' j') (he : Eqv (eM M) (eM M')) : j = j' := by
  have := congrArg List.length ((qf_iff hl hR hn hc hl' hR' hn' hc' hj hj').2 he)
  simpa using this
theorem krn_rows {c j : Nat} {M H : Mx} (hR : Rect c M) (hN : M.length ≤ 3) (hc : c ≤ 3) (hH : HnfOf (c + M.length) (wideM M) H) (hHl : H.length ≤ M.length) (hj : DvJ M M.length c j) : (krn c H).length + j = M.length := by
  obtain ⟨qs, hF, f1, f2⟩ := left_form hR hH
  have hge := wide_ge hR hN hH
  have hsp : (upr c H).length + (krn c H).length = H.length := by
    unfold krn upr low
    rw [List.length_map, ← List.countP_eq_length_filter, ← List.countP_eq_length_filter]
    have := List.length_eq_countP_add_countP (fun r => decide (pv r < c)) (l := H)
    simp only [decide_eq_true_eq] at this
    rw [this]
    congr 1
    congr 1
    funext r
    by_cases h : pv r < c <;> simp [h] <;> omega
  have hFl : ((upr c H).map (List.take c)).length = (upr c H).length := by simp
  have hd := isH_dvj hF (by omega) (by omega)
  have := dvj_eq rfl hR (by omega) hc rfl hF.rect (by omega) hc hj hd (eqv_span hN (by omega) f1 f2)
  omega
theorem krn_b {c : Nat} {M H : Mx} (hM : Rect c M) (hN : M.length ≤ 3) (hm : ∀ r ∈ M, ∀ z ∈ r, -9 ≤ z ∧ z ≤ 9) (hH : HnfOf (c + M.length) (wideM M) H) : ∀ k j, (eM (krn c H) k j).natAbs ≤ 1000000 := by
  intro k j
  rcases Nat.lt_or_ge k (krn c H).length with hk | hk
  case inr => rw [el_row hk]; simp
  obtain ⟨qs, hI, hS⟩ := krn_form hM hH
  have hl : (krn c H)[k].length = M.length := hI.rect _ (List.getElem_mem hk)
  have hself := (hS _).1 (span_row hk)
  have he : ∀ j, vr (krn c H)[k] j = eM (krn c H) k j := fun j => by unfold eM vr; rw [getD_get hk]
  have fin : (vr (krn c H)[k] 0).natAbs ≤ 1000000 ∧ (vr (krn c H)[k] 1).natAbs ≤ 1000000 ∧ (vr (krn c H)[k] 2).natAbs ≤ 1000000 → (eM (krn c H) k j).natAbs ≤ 1000000 := fun hb => by
    rw [← he]
    rcases (show j = 0 ∨ j = 1 ∨ j = 2 ∨ 3 ≤ j by omega) with rfl | rfl | rfl | h3
    · exact hb.1
    · exact hb.2.1
    · exact hb.2.2
    · rw [vr_ge (by omega)]; simp
  refine fin (bd3g (m := eM M) (N := M.length) (ent_b hM hm) hN (fun i j h => eM_row h j) (fun j => ?_) hself.2 (fun y p hT hy hp h0 => ?_))
  · rw [← cmb_T3 hN]
    by_cases hj : j < c
    · rw [hself.1 j hj]; omega
    · rw [cmb_T3 hN]; unfold T3
      rw [eM_col hM (by omega), eM_col hM (by omega), eM_col hM (by omega)]; simp
  · have hs : Span (latM (krn c H)) y := (hS y).2 ⟨fun j _ => by rw [cmb_T3 hN]; exact hT j, hy⟩
    obtain ⟨i, hi, e, hd⟩ := hI.lead hs hp h0
    rw [he]
    have h1 := hI.pos i hi
    rw [e] at h1
    have h2 : eM (krn c H) i p ≤ ((y p).natAbs : Int) := Int.le_of_dvd (by omega) (Int.dvd_natAbs.2 hd)
    rcases (show i < k ∨ i = k ∨ k < i by omega) with h | h | h
    · have := hI.left k hk p (by rw [← e]; exact hI.inc i k h hk)
      omega
    · subst h; omega
    · have := hI.red k i h hi
      rw [e] at this
      omega
structure Sat (K : Mx) : Prop where
  k3 : K.length ≤ 3
  sat : ∀ (d : Int) (z y : V), d ≠ 0 → (∀ k, y k = d * z k) → InL (eM K) y → InL (eM K) z
theorem krn_sat {c : Nat} {M H : Mx} (hR : Rect c M) (hN : M.length ≤ 3) (hH : HnfOf (c + M.length) (wideM M) H) : Sat (krn c H) := by
  obtain ⟨qs, hI, hS⟩ := krn_form hR hH
  have hle := isH_le hI
  refine ⟨by omega, fun d z y hd hy hin => ?_⟩
  rw [inl_span (by omega)] at hin ⊢
  obtain ⟨a1, a2⟩ := (hS y).1 hin
  refine (hS z).2 ⟨fun j hj => ?_, fun i hi => ?_⟩
  · have := a1 j hj
    rw [cmb_T3 hN] at this ⊢
    unfold T3 at this ⊢
    rw [hy, hy, hy] at this
    have e : d * (z 0 * eM M 0 j + z 1 * eM M 1 j + z 2 * eM M 2 j) = 0 := by rw [← this]; grind
    rcases Int.mul_eq_zero.1 e with h | h
    · exact absurd h hd
    · exact h
  · have := a2 i hi
    rw [hy] at this
    rcases Int.mul_eq_zero.1 this with h | h
    · exact absurd h hd
    · exact h
theorem one_of {d s a : Int} (ha : a ≠ 0) (h : a = d * (s * a)) : d ∣ 1 := by
  refine ⟨s, ?_⟩
  have : (1 - d * s) * a = 0 := by rw [Int.sub_mul, Int.one_mul, Int.mul_assoc, ← h]; omega
  rcases Int.mul_eq_zero.1 this with h | h
  · omega
  · exact absurd h ha
theorem sat_one {n : Nat} {ps : List Nat} {K : Mx} (hI : IsH n ps K) (hs : Sat K) (h1 : K.length = 1) {d : Int} (hd : d ≠ 0) (hx : X1 d (eM K)) : d ∣ 1 := by
  have hz : ∀ i, 1 ≤ i → ∀ k, eM K i k = 0 := fun i hi k => el_row (by omega) k
  have hp := hI.pos 0 (by omega)
  obtain ⟨y, hy⟩ := hs.sat d (fun k => eM K 0 k / d) (fun k => eM K 0 k) hd (fun k => (Int.mul_ediv_cancel' (hx 0 k)).symm) ⟨fun i => if i = 0 then 1 else 0, fun k => by simp⟩
  have := hy (ps.getD 0 0)
  rw [hz 1 (by omega), hz 2 (by omega), Int.mul_zero, Int.mul_zero, Int.add_zero, Int.add_zero] at this
  have e := Int.mul_ediv_cancel' (hx 0 (ps.getD 0 0))
  simp only at this
  rw [this] at e
  exact one_of (s := y 0) (by omega) e.symm
theorem sat_two {n : Nat} {ps : List Nat} {K : Mx} (hI : IsH n ps K) (hs : Sat K) (h2 : K.length = 2) {d : Int} (hd : d ≠ 0) (hx : X2 d (eM K)) : d ∣ 1 := by
  have hz : ∀ k, eM K 2 k = 0 := fun k => el_row (by omega) k
  have p0 := hI.pos 0 (by omega)
  have p1 := hI.pos 1 (by omega)
  have l1 : eM K 1 (ps.getD 0 0) = 0 := hI.left 1 (by omega) _ (hI.inc 0 1 (by omega) (by omega))
  have hall : ∀ q, d ∣ eM K 0 q ∧ d ∣ eM K 1 q := fun q => by
    obtain ⟨y, hy⟩ := hs.sat d (fun l => m2 (eM K) 0 1 q l / d) (fun l => m2 (eM K) 0 1 q l) hd (fun l => (Int.mul_ediv_cancel' (hx 0 1 q l)).symm) ⟨fun i => if i = 0 then -eM K 1 q else if i = 1 then eM K 0 q else 0, fun k => by unfold m2; simp; grind⟩
    have a0 := hy (ps.getD 0 0)
    have a1 := hy (ps.getD 1 0)
    have e0 := Int.mul_ediv_cancel' (hx 0 1 q (ps.getD 0 0))
    have e1 := Int.mul_ediv_cancel' (hx 0 1 q (ps.getD 1 0))
    simp only at a0 a1
    rw [a0, hz, l1] at e0
    rw [a1, hz] at e1
    unfold m2 at e0 e1
    rw [l1] at e0
    have f0 : (d * y 0 + eM K 1 q) * eM K 0 (ps.getD 0 0) = 0 := by grind
    have g0 : d * y 0 + eM K 1 q = 0 := by
      rcases Int.mul_eq_zero.1 f0 with h | h
      · exact h
      · omega
    have f1 : (d * y 1 - eM K 0 q) * eM K 1 (ps.getD 1 0) = 0 := by grind
    have g1 : d * y 1 - eM K 0 q = 0 := by
      rcases Int.mul_eq_zero.1 f1 with h | h
      · exact h
      · omega
    exact ⟨⟨y 1, by omega⟩, ⟨-y 0, by rw [Int.mul_neg]; omega⟩⟩
  obtain ⟨y, hy⟩ := hs.sat d (fun k => eM K 0 k / d) (fun k => eM K 0 k) hd (fun k => (Int.mul_ediv_cancel' (hall k).1).symm) ⟨fun i => if i = 0 then 1 else 0, fun k => by simp⟩
  have := hy (ps.getD 0 0)
  rw [hz, l1, Int.mul_zero, Int.mul_zero, Int.add_zero, Int.add_zero] at this
  have e := Int.mul_ediv_cancel' (hall (ps.getD 0 0)).1
  simp only at this
  rw [this] at e
  exact one_of (s := y 0) (by omega) e.symm
theorem krn_all {c : Nat} {M H : Mx} (hR : Rect c M) (hN : M.length ≤ 3) (hc : c ≤ 3) (hH : HnfOf (c + M.length) (wideM M) H) (_ : H.length ≤ M.length) (hj : DvJ M M.length c 0) {i : Nat} (hi : i < M.length) : Span (latM (krn c H)) (fun k => if k = i then 1 else 0) := by
  obtain ⟨qs, hI, hS⟩ := krn_form hR hH
  have hz : ∀ i k, eM M i k = 0 := fun i k => by
    have h0 := dv_far rfl hR (by omega) (by omega) hj (Nat.le_refl 0) (by omega)
    have := (div1 rfl hR (by omega) (by omega) 0).1 (by rw [h0]; exact Int.dvd_refl _) i k
    exact Int.zero_dvd.1 this
  refine (hS _).2 ⟨fun j _ => ?_, fun k hk => ?_⟩
  · rw [cmb_T3 hN]
    unfold T3
    rw [hz, hz, hz]; simp
  · rw [if_neg (by omega)]
theorem krn_three {c : Nat} {M H : Mx} (hR : Rect c M) (hN : M.length ≤ 3) (hc : c ≤ 3) (hH : HnfOf (c + M.length) (wideM M) H) (hHl : H.length ≤ M.length) (hj : DvJ M M.length c 0) (h3 : M.length = 3) (hk : (krn c H).length ≤ 3) {d : Int} (hx : X3 d (eM (krn c H))) : d ∣ 1 := by
  have hin : ∀ i, InL (eM (krn c H)) (fun k => if i < 3 ∧ k = i then (1 : Int) else 0) := fun i => by
    rw [inl_span hk]
    by_cases hi : i < 3
    · have := krn_all hR hN hc hH hHl hj (i := i) (by omega)
      have e : (fun k => if i < 3 ∧ k = i then (1 : Int) else 0) = fun k => if k = i then 1 else 0 := by funext k; simp [hi]
      rw [e]; exact this
    · have e : (fun k => if i < 3 ∧ k = i then (1 : Int) else 0) = fun _ => 0 := by funext k; simp [hi]
      rw [e]; exact .zero
  have := x3_in (B := fun i k => if i < 3 ∧ k = i then (1 : Int) else 0) hin hx 0 1 2 0 1 2
  simpa [m3, m2] using this
theorem krn_unit {c : Nat} {M H : Mx} (hR : Rect c M) (hN : M.length ≤ 3) (hc : c ≤ 3) (hH : HnfOf (c + M.length) (wideM M) H) (hHl : H.length ≤ M.length) (hj : DvJ M M.length c 0) (hk : (krn c H).length = M.length) (i k : Nat) : (eM (krn c H) i k).natAbs ≤ 1 := by
  obtain ⟨qs, hI, hS⟩ := krn_form hR hH
  have hle : ∀ i, i < (krn c H).length → i ≤ qs.getD i 0 := fun i => by
    induction i with
    | zero => intro _; omega
    | succ i ih => intro hi; have := ih (by omega); have := hI.inc i (i + 1) (by omega) hi; omega
  have hge : ∀ t, ∀ i, i < (krn c H).length → (krn c H).length - i = t → qs.getD i 0 ≤ i := fun t => by
    induction t with
    | zero => intro i hi ht; omega
    | succ t ih =>
      intro i hi ht
      rcases Nat.lt_or_ge (i + 1) (krn c H).length with h | h
      · have := ih (i + 1) h (by omega)
        have := hI.inc i (i + 1) (by omega) h
        omega
      · have := hI.lt i hi
        omega
  have hps : ∀ i, i < (krn c H).length → qs.getD i 0 = i := fun i hi => Nat.le_antisymm (hge _ i hi rfl) (hle i hi)
  have hpv : ∀ i, i < (krn c H).length → eM (krn c H) i i = 1 := fun i hi => by
    obtain ⟨i', hi', e, hd⟩ := hI.lead (p := i) (krn_all hR hN hc hH hHl hj (i := i) (by omega)) (by simp) (fun k hk => by simp; omega)
    rw [hps i' hi'] at e
    subst e
    simp at hd
    have := hI.pos i' hi'
    rw [hps i' hi'] at this
    have := Int.le_of_dvd (by omega) hd
    omega
  by_cases hi : i < (krn c H).length
  · by_cases hk2 : k < (krn c H).length
    · rcases Nat.lt_trichotomy k i with h | h | h
      · rw [hI.left i hi k (by rw [hps i hi]; exact h)]; simp
      · subst h; rw [hpv k hi]; simp
      · have := hI.red i k h hk2
        rw [hps k hk2, hpv k hk2] at this
        omega
    · rw [el_col hI.rect (by omega)]; simp
  · rw [el_row (by omega)]; simp
theorem krn_last {c j j' : Nat} {M H : Mx} (hR : Rect c M) (hN : M.length ≤ 3) (hc : c ≤ 3) (hH : HnfOf (c + M.length) (wideM M) H) (hHl : H.length ≤ M.length) (hj : DvJ M M.length c j) (hj' : DvJ (krn c H) (krn c H).length M.length j') : lastD (krn c H) (krn c H).length M.length j' = 1 := by
  have hrows := krn_rows hR hN hc hH hHl hj
  have hs := krn_sat hR hN hH
  obtain ⟨qs, hI, hS⟩ := krn_form hR hH
  have hk3 := hs.k3
  have e := dvj_eq rfl hI.rect (by omega) hN rfl hI.rect (by omega) hN hj' (isH_dvj hI hk3 (by omega)) (Eqv.refl _)
  have one : ∀ D : Nat, (D : Int) ∣ 1 → D = 1 := fun D h => by
    have := Int.natCast_dvd_natCast.1 (show ((D : Nat) : Int) ∣ ((1 : Nat) : Int) from h)
    exact Nat.dvd_one.1 this
  unfold lastD
  rcases Nat.eq_zero_or_pos j' with h0 | h0
  · rw [if_pos h0]
  · rw [if_neg (by omega)]
    have hne := hj'.2.2.1 (j' - 1) (by omega)
    apply one
    rcases (show j' = 1 ∨ j' = 2 ∨ j' = 3 by omega) with h | h | h
    · subst h
      exact sat_one hI hs e.symm (by omega) ((div1 rfl hI.rect (by omega) (by omega) _).1 (Int.dvd_refl _))
    · subst h
      exact sat_two hI hs e.symm (by omega) ((div2 rfl hI.rect (by omega) (by omega) _).1 (Int.dvd_refl _))
    · subst h
      have hj0 : j = 0 := by omega
      subst hj0
      exact krn_three hR hN hc hH hHl hj (by omega) hk3 ((div3 rfl hI.rect (by omega) (by omega) _).1 (Int.dvd_refl _))
theorem krn_dvm {c j : Nat} {M H : Mx} (hR : Rect c M) (hN : M.length ≤ 3) (hc : c ≤ 3) (hm : ∀ r ∈ M, ∀ z ∈ r, -9 ≤ z ∧ z ≤ 9) (hH : HnfOf (c + M.length) (wideM M) H) (hHl : H.length ≤ M.length) (hj : DvJ M M.length c j) (h0 : 0 < (krn c H).length) : ∃ B, DvM (krn c H) (krn c H).length M.length B := by
  have hrows := krn_rows hR hN hc hH hHl hj
  obtain ⟨qs, hI, hS⟩ := krn_form hR hH
  have hnc : ncols (krn c H) = M.length := by
    unfold ncols
    rw [getD_get h0]
    exact hI.rect _ (List.getElem_mem h0)
  have hent : ∀ B : Nat, (∀ i k, (eM (krn c H) i k).natAbs ≤ B) → EntB B (krn c H) := fun B hb r hr z hz => by
    obtain ⟨i, hi, rfl⟩ := List.getElem_of_mem hr
    obtain ⟨k, hk, rfl⟩ := List.getElem_of_mem hz
    have := hb i k
    unfold eM at this
    rwa [getD_get hi, getD_get hk] at this
  rcases Nat.lt_or_ge (krn c H).length 3 with h3 | h3
  · refine ⟨1000000, rfl, hnc, hI.rect, by omega, by omega, by omega, hent _ (krn_b hR hN hm hH), fun k h1 _ => ?_⟩
    rcases (show k = 0 ∨ k = 1 ∨ k = 2 by omega) with rfl | rfl | rfl <;> decide
  · have hj0 : j = 0 := by omega
    subst hj0
    refine ⟨1, rfl, hnc, hI.rect, by omega, by omega, by omega, hent _ (krn_unit hR hN hc hH hHl hj (by omega)), fun k h1 _ => ?_⟩
    rcases (show k = 0 ∨ k = 1 ∨ k = 2 ∨ k = 3 by omega) with rfl | rfl | rfl | rfl <;> decide
end Go.Proofs.YtcklioolpicmcaaGreatDoor
namespace Go.Proofs.YtcklioolpicmcaaGreatDoor
open Go.RowKit Go.Sort
def KerPostL (w : World) (M : Mx) (c : Nat) (e : Ending) (w' : World) : Prop :=
  ∃ H, HnfOf (c + M.length) (wideM M) H ∧ H.length ≤ M.length ∧ (if smallM (krn c H) = true then ∃ v, e = .returned (.tuple #[v, .int .i64 0]) ∧ MatO w.heap.size w' v (krn c H) else e = .returned (.tuple #[.slice none 0 0, .int .i64 4])) ∧ Ext w w'
set_option maxRecDepth 100000 in
set_option maxHeartbeats 1000000 in
theorem Kernel_len {w : World} {vm : Value} {M : Mx} {c : Nat} (hM : MatR w vm M) (hck : checkM M = 0) (h0 : 0 < M.length) (hc : c = ncols M) (hk : 2 * (2 * bC M.length 30 (c + M.length) + 2) + 2 < LIM) (hL : Laid w) :
    Calls Tryz.prog 32 #[vm] w (KerPostL w M c) := by
  obtain ⟨hl12, hn12, hRt, hent⟩ := checkM_ok hck
  rw [← hc] at hn12 hRt
  have hch := Lib.hid (tableCheck_any hM)
  rw [hck] at hch
  have hwd := Lib.hid (fun W (hW : Ext w W) => wide_any (hM.ext hW) hRt h0 (by omega) (by omega) hent hk (hL.ext hW))
  have HL := Lib.hid hL
  have Hk := Lib.hid hk
  obtain ⟨sa, gb, go, cap, vs, rfl, hcap, hvl, hS, hr⟩ := hM
  obtain ⟨N, hN⟩ : ∃ N, N = M.length := ⟨_, rfl⟩
  have HN := Lib.hid hN
  rw [← hN] at hch hwd h0 hl12 ⊢
  clear hS hr hvl hcap hck hc hk hL hRt hent hN
  go_enter Tryz.func32, Tryz.ntmps32
  go_wp2_with fail
  refine hch.out.mono ?_
  rintro e w1 ⟨rfl, hE1⟩
  go_wp2_with fail
  refine (hwd.out _ hE1).mono ?_
  rintro e w2 ⟨g, cp, H, rfl, hH, hHl, hG, hHb, hE2⟩
  have Hhl := Lib.hid hHl
  rw [← HN.out] at hHl
  obtain ⟨ps, hI⟩ := hH.1
  have hrc := hI.rect
  have hX2 := hE1.trans hE2
  have hkn := Lib.hid (kernel_any (w := w2) (c := c) (m := N) hG (by rw [HN.out]; exact hrc) h0 (by omega) (by omega))
  have hrows : ∀ r ∈ krn c H, r.length ≤ 1000000 ∧ ∀ z ∈ r, nd z ≤ LIM := fun r hr => by
    unfold krn low at hr
    obtain ⟨s, hs, rfl⟩ := List.mem_map.1 hr
    have hs' := (List.mem_filter.1 hs).1
    refine ⟨by rw [List.length_drop, hrc s hs', ← HN.out]; omega, fun z hz => ?_⟩
    have := nd_lt2 (hHb s hs' z (List.mem_of_mem_drop hz))
    have := Hk.out
    omega
  have hkl := krn_len2 c H
  have hsm := Lib.hid (fun W v (hW : Ext w W) (hK : GridR W v (krn c H)) => ssmall_any hK (by omega) (fun r hr => (hrows r hr).1) (fun r hr => (hrows r hr).2) (HL.out.ext hW))
  have HH := Lib.hid hH
  clear hH hI hrc hG hHb hrows hE1 hE2 hwd hch
  go_wp2_with fail
  refine hkn.out.mono ?_
  rintro e w3 ⟨vk, rfl, hK, hE3⟩
  have hX3 := hX2.trans hE3
  have hs3 := Lib.hid (hsm.out w3 vk hX3 hK)
  clear hK hkn hE3 hsm
  go_wp2_with fail
  refine hs3.out.mono ?_
  rintro e w4 ⟨hp, hE4⟩
  have hX4 := hX3.trans hE4
  have hsz := hX3.size
  by_cases hb : smallM (krn c H) = true
  · rw [if_pos hb] at hp
    obtain ⟨v, rfl, hv⟩ := hp
    have Hres := Lib.hid (show KerPostL w M c (.returned (.tuple #[v, .int .i64 0])) w4 from ⟨H, HH.out, Hhl.out, by rw [if_pos hb]; exact ⟨v, rfl, hv.mono hsz⟩, hX4⟩)
    clear hb hv
    go_wp2_with fail
    go_ret2
    exact Hres.out
  · rw [if_neg hb] at hp
    subst hp
    have Hres := Lib.hid (show KerPostL w M c (.returned (.tuple #[.slice none 0 0, .int .i64 4])) w4 from ⟨H, HH.out, Hhl.out, by rw [if_neg hb], hX4⟩)
    clear hb
    go_wp2_with fail
    go_ret2
    exact Hres.out
set_option maxRecDepth 100000 in
set_option maxHeartbeats 1000000 in
theorem Pivot08_zero {w : World} {v : Value} {x : List Int} (hR : RowR w v x) (hl : x.length ≤ 1000000) (hz : ∀ i, i < x.length → x.getD i 0 = 0) :
    Calls Tryz.prog 52 #[v] w fun e w' => e = .returned (.int .i64 (-1)) ∧ Ext w w' := by
  obtain ⟨sa, gb, go, cap, rfl, hc, hS⟩ := hR
  obtain ⟨n, hn⟩ : ∃ n, n = x.length := ⟨_, rfl⟩
  rw [← hn] at hl ⊢
  have HS := Lib.hid hS
  have Hn := Lib.hid hn
  have HZ := Lib.hid hz
  clear hS hn hc hz
  go_enter Tryz.func52, Tryz.ntmps52
  go_wp2_with fail
  go_loopw [3] (fun idx wr => ∃ i : Nat, i ≤ n ∧ idx = .int .i64 i ∧ Ext w wr) (fun idx _ => n - (intOf idx).toNat)
  case atStart => exact ⟨0, by omega, by go_num, Ext.refl _⟩
  case round =>
    obtain ⟨i, hi, rfl, hE⟩ := hrel
    generalize wr = X at *
    by_cases hlt : i < n
    · have hii : (i : Int) < (n : Int) := by omega
      obtain rfl := HS.out.addr (by rw [is_length, ← Hn.out]; omega)
      have c1 := (HS.out.ext hE).cell i (.int .i64 (x[i]'(by rw [← Hn.out]; omega))) (is_get (by rw [← Hn.out]; omega))
      have hz0 : x[i]'(by rw [← Hn.out]; omega) = 0 := by
        have := HZ.out i (by rw [← Hn.out]; omega)
        rwa [getD_get (show i < x.length by rw [← Hn.out]; omega)] at this
      rw [hz0] at c1
      clear hz0
      go_wp2_with fail
      go_roundw
      case rel => exact ⟨i + 1, by omega, by go_num, hE⟩
      case measure => simp [intOf] <;> omega
    · have hii : ¬ (i : Int) < (n : Int) := by omega
      go_wp2_with fail
      go_ret
      exact ⟨rfl, hE⟩
structure KrOk (M K : Mx) : Prop where
  form : ∃ ps, IsH M.length ps K
  rows : ∀ j, DvJ M M.length (ncols M) j → K.length + j = M.length
  zero : ∀ i (h : i < K.length) j, j < ncols M → cmb M (vr K[i]) j = 0
  ent : ∀ r ∈ K, ∀ z ∈ r, -1000000000 ≤ z ∧ z ≤ 1000000000
  last : ∀ (w : World) (v : Value), MatR w v K → Calls Tryz.prog 53 #[v] w fun e w' => e = .returned (.int .i64 1) ∧ Ext w w'
theorem dvj_ex (M : Mx) (n c : Nat) : ∃ j, DvJ M n c j := by
  have step : ∀ t, (∃ j, DvJ M n c j) ∨ (t ≤ n ∧ t ≤ c → ∀ s, s < t → dvA M n c s ≠ 0) := fun t => by
    induction t with
    | zero => exact .inr fun _ s hs => absurd hs (by omega)
    | succ t ih =>
      rcases ih with h | h
      · exact .inl h
      · by_cases ht : t < n ∧ t < c
        · by_cases h0 : dvA M n c t = 0
          · exact .inl ⟨t, by omega, by omega, h (by omega), fun _ _ => h0⟩
          · right
            intro _ s hs
            rcases (show s < t ∨ s = t by omega) with h1 | h1
            · exact h (by omega) s h1
            · rw [h1]; exact h0
        · exact .inr fun h2 => absurd h2 (by omega)
  rcases step (min n c) with h | h
  · exact h
  · exact ⟨min n c, Nat.min_le_left _ _, Nat.min_le_right _ _, h ⟨Nat.min_le_left _ _, Nat.min_le_right _ _⟩, fun h1 h2 => absurd (Nat.lt_min.2 ⟨h1, h2⟩) (Nat.lt_irrefl _)⟩
theorem sk_kernel {w : World} {v : Value} {M : Mx} (hM : MatR w v M) (h : SmM M) (hL : Laid w) :
    Calls Tryz.prog 32 #[v] w fun e w' => ∃ u K, e = .returned (.tuple #[u, .int .i64 0]) ∧ MatR w' u K ∧ KrOk M K ∧ Ext w w' := by
  rcases Nat.eq_zero_or_pos M.length with h0 | h0
  · have hMe := List.eq_nil_of_length_eq_zero h0
    subst hMe
    obtain ⟨sa, gb, go, cap, vs, rfl, _, _, _, _⟩ := hM
    refine (Kernel_nil hL).mono ?_
    rintro e w' ⟨u, rfl, hu, hE⟩
    refine ⟨u, [], rfl, hu, ⟨⟨[], (fun r hr => by cases hr), rfl, (fun i hi => absurd hi (by simp)), (fun i k _ hk => absurd hk (by simp)), (fun i hi => absurd hi (by simp)), (fun i hi => absurd hi (by simp)), (fun i k _ hk => absurd hk (by simp))⟩, fun j hj => (by have := hj.1; simp at this; simp [this]), fun i hi => absurd hi (by simp), (fun r hr => by cases hr), fun W V hV => ?_⟩, hE⟩
    refine (Last08_any hV (n := 0) (c := 0) (B := 1) ⟨rfl, rfl, (fun r hr => by cases hr), by omega, by omega, by omega, (fun r hr => by cases hr), fun k hk _ => ?_⟩).mono ?_
    · rw [show k = 0 by omega]; decide
    · rintro e W' ⟨j, hj, rfl, hE'⟩
      have : j = 0 := by have := hj.1; omega
      subst this
      exact ⟨rfl, hE'⟩
  · refine (Kernel_len hM (sm_check h) h0 rfl (kr_lim h.n3 h.c3) hL).mono ?_
    rintro e w' ⟨H, hH, hHl, hp, hE⟩
    have hsm := krn_small h.rect h.n3 h.ent hH
    rw [if_pos (by unfold smallM; exact List.all_eq_true.2 hsm)] at hp
    obtain ⟨u, rfl, hu⟩ := hp
    obtain ⟨qs, hI, hS⟩ := krn_form h.rect hH
    refine ⟨u, _, rfl, hu.mat, ⟨⟨qs, hI⟩, fun j hj => krn_rows h.rect h.n3 h.c3 hH hHl hj, fun i hi j hj => ((hS _).1 (span_row hi)).1 j hj, fun r hr z hz => ?_, fun W V hV => ?_⟩, hE⟩
    · have := List.all_eq_true.1 (hsm r hr) z hz
      unfold grt at this
      simp only [Bool.not_eq_true', decide_eq_false_iff_not] at this
      omega
    · obtain ⟨j, hj⟩ := dvj_ex M M.length (ncols M)
      rcases Nat.eq_zero_or_pos (krn (ncols M) H).length with hk | hk
      · have he := List.eq_nil_of_length_eq_zero hk
        rw [he] at hV
        refine (Last08_any hV (n := 0) (c := 0) (B := 1) ⟨rfl, rfl, (fun r hr => by cases hr), by omega, by omega, by omega, (fun r hr => by cases hr), fun k hk _ => ?_⟩).mono ?_
        · rw [show k = 0 by omega]; decide
        · rintro e W' ⟨j, hj, rfl, hE'⟩
          have : j = 0 := by have := hj.1; omega
          subst this
          exact ⟨rfl, hE'⟩
      · obtain ⟨B, hB⟩ := krn_dvm h.rect h.n3 h.c3 h.ent hH hHl hj hk
        refine (Last08_any hV hB).mono ?_
        rintro e W' ⟨j', hj', rfl, hE'⟩
        rw [krn_last h.rect h.n3 h.c3 hH hHl hj hj']
        exact ⟨rfl, hE'⟩
set_option maxRecDepth 100000 in
set_option maxHeartbeats 8000000 in
theorem sk_walk {w : World} {R C : Nat} {e0 e1 e2 e3 e4 e5 e6 e7 e8 : Int} (hG : ShapeV #[.int .u8 R, .int .u8 C, .int .i8 e0, .int .i8 e1, .int .i8 e2, .int .i8 e3, .int .i8 e4, .int .i8 e5, .int .i8 e6, .int .i8 e7, .int .i8 e8] R C [e0, e1, e2, e3, e4, e5, e6, e7, e8]) (hL : Laid w) :
    Calls Tryz.prog 8 #[.agg #[.int .u8 R, .int .u8 C, .int .i8 e0, .int .i8 e1, .int .i8 e2, .int .i8 e3, .int .i8 e4, .int .i8 e5, .int .i8 e6, .int .i8 e7, .int .i8 e8]] w fun e w' => e = .returned (.bool true) ∧ Ext w w' := by
  have HL := Lib.hid hL
  obtain ⟨M, hMd⟩ : ∃ M, M = shM [e0, e1, e2, e3, e4, e5, e6, e7, e8] (C % 4) (R % 4) := ⟨_, rfl⟩
  have hmk := Lib.hid (fun W => Make08_any (w := W) hG)
  rw [← hMd] at hmk
  have hSm : SmM M := by rw [hMd]; exact sh_small _ _ _
  obtain ⟨N, hN⟩ : ∃ N, N = M.length := ⟨_, rfl⟩
  obtain ⟨c, hc⟩ : ∃ c, c = ncols M := ⟨_, rfl⟩
  have hN3 : N ≤ 3 := by rw [hN]; exact hSm.n3
  have hc3 : c ≤ 3 := by rw [hc]; exact hSm.c3
  have hke := Lib.hid (fun W vm (a : MatR W vm M) (hL : Laid W) => sk_kernel a hSm hL)
  have hdv := Lib.hid (fun W vm (a : MatR W vm M) => Divisors08_any a (sm_dvm hSm))
  have hco := Lib.hid (fun W vm (a : MatR W vm M) => Columns08_any a)
  have hcb := Lib.hid (fun W vm vl x (a : MatR W vm M) (r : RowR W vl x) (hx : x.length = M.length) (hb : ∀ z ∈ x, -1000000000 ≤ z ∧ z ≤ 1000000000) => Combine08_any a r (hSm.cb hx hb))
  rw [← hc] at hco hcb hdv
  rw [← hN] at hdv
  have HN := Lib.hid hN
  have HC := Lib.hid hc
  clear hG hL hMd hSm hN hc
  go_enter Tryz.func8, Tryz.ntmps8
  have hX : Ext w (w.alloc (.cells #[.int .u8 R, .int .u8 C, .int .i8 e0, .int .i8 e1, .int .i8 e2, .int .i8 e3, .int .i8 e4, .int .i8 e5, .int .i8 e6, .int .i8 e7, .int .i8 e8] 25)) := (Ext.refl w).alloc _
  go_wp2_with fail
  refine (known08_any (HL.out.ext hX)).mono ?_
  rintro e w1 ⟨rfl, hE1⟩
  have s0 : w1.cell? ⟨w.heap.size, 0, none⟩ = some (.int .u8 R) := hE1.cell (by go_simp)
  have s1 : w1.cell? ⟨w.heap.size, 1, none⟩ = some (.int .u8 C) := hE1.cell (by go_simp)
  have s2 : w1.cell? ⟨w.heap.size, 2, none⟩ = some (.int .i8 e0) := hE1.cell (by go_simp)
  have s3 : w1.cell? ⟨w.heap.size, 3, none⟩ = some (.int .i8 e1) := hE1.cell (by go_simp)
  have s4 : w1.cell? ⟨w.heap.size, 4, none⟩ = some (.int .i8 e2) := hE1.cell (by go_simp)
  have s5 : w1.cell? ⟨w.heap.size, 5, none⟩ = some (.int .i8 e3) := hE1.cell (by go_simp)
  have s6 : w1.cell? ⟨w.heap.size, 6, none⟩ = some (.int .i8 e4) := hE1.cell (by go_simp)
  have s7 : w1.cell? ⟨w.heap.size, 7, none⟩ = some (.int .i8 e5) := hE1.cell (by go_simp)
  have s8 : w1.cell? ⟨w.heap.size, 8, none⟩ = some (.int .i8 e6) := hE1.cell (by go_simp)
  have s9 : w1.cell? ⟨w.heap.size, 9, none⟩ = some (.int .i8 e7) := hE1.cell (by go_simp)
  have s10 : w1.cell? ⟨w.heap.size, 10, none⟩ = some (.int .i8 e8) := hE1.cell (by go_simp)
  have hX1 := hX.trans hE1
  clear hX hE1
  go_wp2_with fail
  refine (hmk.out w1).mono ?_
  rintro e w2 ⟨vm, rfl, hvm, hE2⟩
  have hMr := hvm.mat
  obtain ⟨sm, gm, om, cm, vsm, rfl, _, _, _, _⟩ := id hMr
  rw [← HN.out] at hMr ⊢
  have HMr := Lib.hid hMr
  have hX2 := hX1.trans hE2
  clear s0 s1 s2 s3 s4 s5 s6 s7 s8 s9 s10 hvm hMr hE2 hX1 hmk
  go_wp2_with fail
  refine (hke.out _ _ HMr.out (HL.out.ext hX2)).mono ?_
  rintro e w3 ⟨u, K, rfl, hu, hok, hE3⟩
  obtain ⟨sk, ck, rfl⟩ : ∃ sk ck, u = .slice sk K.length ck := by obtain ⟨sk, gk, ok, ck, vsk, e, _⟩ := hu; exact ⟨sk, ck, e⟩
  obtain ⟨k, hkd⟩ : ∃ k, k = K.length := ⟨_, rfl⟩
  rw [← hkd] at hu ⊢
  have Hk := Lib.hid hkd
  have HK := Lib.hid hu
  have Hok := Lib.hid hok
  obtain ⟨ps, hI⟩ := hok.form
  have hkN : k ≤ N := by rw [hkd, HN.out]; exact isH_le hI
  have HI := Lib.hid hI
  have hX3 := hX2.trans hE3
  replace HMr := Lib.hid (HMr.out.ext hE3)
  clear hu hok hkd hI hE3 hX2 hke
  go_wp2_with fail
  refine (hdv.out _ _ HMr.out).mono ?_
  rintro e w4 ⟨vd, rfl, ⟨j, hd, hj⟩, hE4⟩
  obtain ⟨sd, cd, rfl, _⟩ := hd.row.len
  rw [dvl_length]
  have hkj : (N : Int) - (j : Int) = (k : Int) := by
    have := Hok.out.rows j (by rw [← HN.out, ← HC.out]; exact hj)
    rw [← Hk.out, ← HN.out] at this
    omega
  have hjN := hj.1
  have hX4 := hX3.trans hE4
  replace HMr := Lib.hid (HMr.out.ext hE4)
  replace HK := Lib.hid (HK.out.ext hE4)
  clear hd hj hE4 hX3 hdv
  go_wp2_with fail
  refine (IsForm08_at HK.out HI.out (by rw [← HN.out]; omega) (by rw [← Hk.out]; omega)).mono ?_
  rintro e w5 ⟨rfl, hE5⟩
  have hX5 := hX4.trans hE5
  replace HMr := Lib.hid (HMr.out.ext hE5)
  replace HK := Lib.hid (HK.out.ext hE5)
  clear hE5 hX4 hkj hjN
  go_wp2_with fail
  go_loopw [6] (fun idx wr => ∃ i : Nat, i ≤ k ∧ idx = .int .i64 i ∧ Ext w5 wr) (fun idx _ => k - (intOf idx).toNat)
  case atStart => exact ⟨0, by omega, by go_num, Ext.refl _⟩
  case round =>
    obtain ⟨i, hi, rfl, hE⟩ := hrel
    generalize wr = X at *
    by_cases hlt : i < k
    · have hii : (i : Int) < (k : Int) := by omega
      have hiK : i < K.length := by rw [← Hk.out]; exact hlt
      obtain ⟨gk, ok, sr, cr, rfl, crow, hrow⟩ : ∃ gk ok sr cr, sk = some ⟨gk, ok, none⟩ ∧ X.cell? ⟨gk, ok + i, none⟩ = some (.slice sr N cr) ∧ RowR X (.slice sr N cr) K[i] := by
        obtain ⟨sa5, gb5, go5, cap5, vs5, e5, q0, hvl5, hS5, hr5⟩ := HK.out.ext hE
        obtain ⟨s6, b6, o6, c6, hrow6, q1, q2⟩ := MatR.row hS5 hvl5 hr5 hiK
        obtain rfl := hS5.addr (by omega)
        simp only [Value.slice.injEq] at e5
        obtain ⟨e1, e2, e3⟩ := e5
        have hl6 : K[i].length = N := by rw [HI.out.rect _ (List.getElem_mem hiK)]; exact HN.out.symm
        refine ⟨gb5, go5, s6, c6, e1, by rw [hl6] at hrow6; exact hrow6, ⟨s6, b6, o6, c6, by rw [hl6], q1, q2⟩⟩
      have HRo := Lib.hid hrow
      have HMx := Lib.hid (HMr.out.ext hE)
      have Hli := Lib.hid (show K[i].length = M.length from HI.out.rect _ (List.getElem_mem hiK))
      have Hbi := Lib.hid (fun z (hz : z ∈ K[i]) => Hok.out.ent _ (List.getElem_mem hiK) z hz)
      have Hzi := Lib.hid (show (List.range c).map (cmb M (vr K[i])) = List.replicate c 0 from by
        apply List.ext_getElem (by simp)
        intro t h1 h2
        simp only [List.getElem_map, List.getElem_range, List.getElem_replicate]
        exact Hok.out.zero i hiK t (by rw [← HC.out]; simpa using h2))
      clear hrow
      go_wp2_with fail
      have d0 : Ext X X.drew := (Ext.refl X).drew
      refine wp_region_held_tail (S := fun W => Ext X W) 16 (by kernel_rfl) (by simp) ?_
      intro inv
      refine wpAnyLH_take (i := 0) (v := .slice (some ⟨gk, ok, none⟩) k ck) rfl (by kernel_rfl) (fun _ _ _ h => h) (.inl ⟨by rfl, fun W hW => by go_simp⟩) d0 inv ?_
      intro inv
      go_simp
      refine wpAnyLH_take (i := 1) (v := .int .i64 i) rfl (by kernel_rfl) (fun _ _ _ h => h) (.inl ⟨by rfl, fun W hW => by go_simp⟩) d0 inv ?_
      intro inv
      go_simp
      refine wpAnyLH_take (i := 2) (v := .pointer (some ⟨gk, ok + i, none⟩)) rfl (by kernel_rfl) (fun _ _ _ h => h) (.inl ⟨by rfl, fun W hW => by go_simp⟩) d0 inv ?_
      intro inv
      go_simp
      refine wpAnyLH_take (i := 3) (v := .slice sr N cr) rfl (by kernel_rfl) (fun _ _ _ h => h) (.inl ⟨by rfl, fun W hW => by have q0 := hW.cell crow; go_simp⟩) d0 inv ?_
      intro inv
      go_simp
      refine wpAnyLH_take (i := 4) (v := .int .i64 N) rfl (by kernel_rfl) (fun _ _ _ h => h) (.inl ⟨by rfl, fun W hW => by go_simp⟩) d0 inv ?_
      intro inv
      go_simp
      refine wpAnyLH_take (i := 5) (v := .slice sm N cm) rfl (by kernel_rfl) (fun _ _ _ h => h) (.inl ⟨by rfl, fun W hW => by go_simp⟩) d0 inv ?_
      intro inv
      go_simp
      refine wpAnyLH_take (i := 6) (v := .int .i64 N) rfl (by kernel_rfl) (fun _ _ _ h => h) (.inl ⟨by rfl, fun W hW => by go_simp⟩) d0 inv ?_
      intro inv
      go_simp
      refine wpAnyLH_take (i := 7) (v := .bool false) rfl (by kernel_rfl) (fun _ _ _ h => h) (.inl ⟨by rfl, fun W hW => by go_simp⟩) d0 inv ?_
      intro inv
      go_simp
      refine wpAnyLH_take (i := 8) (v := .bool false) rfl (by kernel_rfl) (fun _ _ _ h => h) (.inl ⟨by rfl, fun W hW => by go_simp⟩) d0 inv ?_
      intro inv
      go_simp
      refine wpAnyLH_take (i := 9) (v := .slice sm N cm) rfl (by kernel_rfl) (fun _ _ _ h => h) (.inl ⟨by rfl, fun W hW => by go_simp⟩) d0 inv ?_
      intro inv
      go_simp
      refine wpAnyLH_take (i := 10) (v := .slice (some ⟨gk, ok, none⟩) k ck) rfl (by kernel_rfl) (fun _ _ _ h => h) (.inl ⟨by rfl, fun W hW => by go_simp⟩) d0 inv ?_
      intro inv
      go_simp
      refine wpAnyLH_take (i := 11) (v := .int .i64 i) rfl (by kernel_rfl) (fun _ _ _ h => h) (.inl ⟨by rfl, fun W hW => by go_simp⟩) d0 inv ?_
      intro inv
      go_simp
      refine wpAnyLH_take (i := 12) (v := .pointer (some ⟨gk, ok + i, none⟩)) rfl (by kernel_rfl) (fun _ _ _ h => h) (.inl ⟨by rfl, fun W hW => by go_simp⟩) d0 inv ?_
      intro inv
      go_simp
      refine wpAnyLH_take (i := 13) (v := .slice sr N cr) rfl (by kernel_rfl) (fun _ _ _ h => h) (.inl ⟨by rfl, fun W hW => by have q0 := hW.cell crow; go_simp⟩) d0 inv ?_
      intro inv
      go_simp
      refine wpAnyLH_take (i := 14) (v := .slice sm N cm) rfl (by kernel_rfl) (fun _ _ _ h => h) (.inl ⟨by rfl, fun W hW => by go_simp⟩) d0 inv ?_
      intro inv
      go_simp
      refine wpAnyLH_one (i := 15) rfl (by kernel_rfl) (fun K15 hK15 => ?_)
      go_simp
      refine (hco.out _ _ (HMx.out.ext d0)).mono ?_
      rintro e X1 ⟨rfl, hE1⟩
      have d1 := d0.trans hE1
      refine hK15 _ _ d1 ?_
      clear hK15 hE1
      refine wpAnyLH_end (by kernel_rfl) ?_
      go_wp2_with fail
      refine (hcb.out _ _ _ _ (HMx.out.ext d1) (HRo.out.ext d1) Hli.out Hbi.out).mono ?_
      rintro e X2 ⟨vq, rfl, hvq, hE2⟩
      rw [Hzi.out] at hvq
      have HQ := Lib.hid hvq.row
      have hX2 := hE.trans (d1.trans hE2)
      clear hvq hE2 d1 d0 inv
      go_wp2_with fail
      refine (Pivot08_zero HQ.out (by simp; omega) (fun t ht => by simp at ht; simp [List.getD, ht])).mono ?_
      rintro e X3 ⟨rfl, hE3⟩
      have hX3 := hX2.trans hE3
      clear hE3 hX2
      go_wp2_with fail
      go_roundw
      case rel => exact ⟨i + 1, by omega, by go_num, hX3⟩
      case measure => simp [intOf] <;> omega
    · have hii : ¬ (i : Int) < (k : Int) := by omega
      go_wp2_with fail
      refine (Hok.out.last _ _ (HK.out.ext hE)).mono ?_
      rintro e X1 ⟨rfl, hE1⟩
      go_wp2_with fail
      go_ret
      exact ⟨rfl, hX5.trans (hE.trans hE1)⟩
end Go.Proofs.YtcklioolpicmcaaGreatDoor
