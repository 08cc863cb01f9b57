/- Part 30 of the proof of the claim: contracts of the functions that it reaches, and plain laws; no condition. -/
import Derived.Test.YtokjolmpdfmnbaaGreatDoorW29
import Derived.Test.YtokjolmpdfmnbaaGreatDoorW03
import Derived.Test.YtokjolmpdfmnbaaGreatDoorW12
import Derived.Test.YtokjolmpdfmnbaaGreatDoorW11
import Derived.Test.YtokjolmpdfmnbaaGreatDoorW19
import Derived.Test.YtokjolmpdfmnbaaGreatDoorW27
import Derived.BigQuiet
import Derived.Test.YtokjolmpdfmnbaaGreatDoorW25
import Derived.Test.YtokjolmpdfmnbaaGreatDoorW18
namespace Go.Proofs.YtokjolmpdfmnbaaGreatDoor
open Go.RowKit Go.Sort
def dvA (M : Mx) (n c t : Nat) : Nat := divAll M n c (t + 1) (2 ^ n)
def dvl (M : Mx) (n c j : Nat) : List Int := (List.range j).map fun t => (dvA M n c t : Int)
@[simp] theorem dvl_length (M : Mx) (n c j : Nat) : (dvl M n c j).length = j := by simp [dvl]
structure DvM (M : Mx) (n c B : Nat) : Prop where
  hn : M.length = n
  hc : ncols M = c
  rect : Rect c M
  n4 : n ≤ 4
  c4 : c ≤ 4
  b1 : 1 ≤ B
  ent : EntB B M
  lim : ∀ k, k ≤ n → k ≤ c → dB8 B k ≤ 1000000000000000000
theorem DvM.b {M : Mx} {n c B : Nat} (h : DvM M n c B) {t : Nat} (h1 : t < n) (h2 : t < c) : dvA M n c t ≤ 1000000000000000000 := divAll_b h.ent (h.lim (t + 1) h1 h2) _
def qfE (M : Mx) (n c t : Nat) : Int := (dvA M n c t : Int).tdiv (if t = 0 then 1 else (dvA M n c (t - 1) : Int))
def qfL (M : Mx) (n c j : Nat) : List Int := (List.range j).map (qfE M n c)
@[simp] theorem qfL_length (M : Mx) (n c j : Nat) : (qfL M n c j).length = j := by simp [qfL]
end Go.Proofs.YtokjolmpdfmnbaaGreatDoor
namespace Go.Proofs.YtokjolmpdfmnbaaGreatDoor
theorem detF1 (a : Int) : detF 1 [[a]] = a := by simp [detF, detS, sgn8, eM]
theorem detF2 (a b c d : Int) : detF 2 [[a, b], [c, d]] = a * d - b * c := by
  simp [detF, detS, sgn8, eM, mnr]; grind
theorem detF3 (a b c d e f g h i : Int) : detF 3 [[a, b, c], [d, e, f], [g, h, i]] = a * (e * i - f * h) - b * (d * i - f * g) + c * (d * h - e * g) := by
  simp [detF, detS, sgn8, eM, mnr]
  grind
theorem sub1 {M : Mx} {n c r s i k : Nat} (h1 : selI n r = [i]) (h2 : selI c s = [k]) : detF 1 (subM M n c r s) = eM M i k := by
  have e : subM M n c r s = [[eM M i k]] := by unfold subM subR; rw [h1, h2]; rfl
  rw [e, detF1]
theorem sub2 {M : Mx} {n c r s i j k l : Nat} (h1 : selI n r = [i, j]) (h2 : selI c s = [k, l]) : detF 2 (subM M n c r s) = m2 (eM M) i j k l := by
  have e : subM M n c r s = [[eM M i k, eM M i l], [eM M j k, eM M j l]] := by unfold subM subR; rw [h1, h2]; rfl
  rw [e, detF2]; rfl
section
variable {M : Mx} {n c : Nat} (hl : M.length = n) (hR : Rect c M) (hn : n ≤ 4) (hc : c ≤ 4)
include hl hR hn hc
end
end Go.Proofs.YtokjolmpdfmnbaaGreatDoor
namespace Go.Proofs.YtokjolmpdfmnbaaGreatDoor
open Hnf
theorem dvd_lin {M : List V} {f : V → Int} {c : Int} (h0 : f (fun _ => 0) = 0) (hs : ∀ v q u, f (Hnf.sub v q u) = f v - q * f u) (hM : ∀ x ∈ M, c ∣ f x) {v : V} (h : Span M v) : c ∣ f v := by
  induction h with
  | zero => rw [h0]; exact ⟨0, by simp⟩
  | step q h hr ih => rw [hs]; exact Int.dvd_sub ih (Int.dvd_trans (hM _ hr) ⟨q, Int.mul_comm _ _⟩)
theorem det1_dvd {a f : V} {p : Nat} (h1 : Span [a] f) : a p ∣ f p :=
  dvd_lin (f := fun v => v p) rfl (fun v q u => rfl) (fun x hx => by simp at hx; rw [hx]; exact ⟨1, by simp⟩) h1
theorem det2_dvd {a b f g : V} {p q : Nat} (h1 : Span [a, b] f) (h2 : Span [a, b] g) : det2 a b p q ∣ det2 f g p q := by
  refine dvd_lin (f := fun v => det2 v g p q) (by simp [det2]) (fun v k u => by simp only [det2, Hnf.sub]; grind) (fun x hx => ?_) h1
  refine dvd_lin (f := fun v => det2 x v p q) (by simp [det2]) (fun v k u => by simp only [det2, Hnf.sub]; grind) (fun y hy => ?_) h2
  simp only [List.mem_cons, List.not_mem_nil, or_false] at hx hy
  rcases hx with rfl | rfl <;> rcases hy with rfl | rfl
  · exact ⟨0, by simp only [det2]; grind⟩
  · exact ⟨1, by simp only [det2]; grind⟩
  · exact ⟨-1, by simp only [det2]; grind⟩
  · exact ⟨0, by simp only [det2]; grind⟩
theorem det3_sw12 (x y z : V) (p q s : Nat) : det3 y x z p q s = -det3 x y z p q s := by simp only [det3, det2]; grind
theorem det3_sw23 (x y z : V) (p q s : Nat) : det3 x z y p q s = -det3 x y z p q s := by simp only [det3, det2]; grind
theorem det3_e12 (x z : V) (p q s : Nat) : det3 x x z p q s = 0 := by simp only [det3, det2]; grind
theorem det3_e23 (x z : V) (p q s : Nat) : det3 x z z p q s = 0 := by simp only [det3, det2]; grind
theorem det3_e13 (x z : V) (p q s : Nat) : det3 x z x p q s = 0 := by simp only [det3, det2]; grind
theorem dvd_z (c : Int) {x : Int} (h : x = 0) : c ∣ x := ⟨0, by rw [h]; simp⟩
theorem dvd_n {c x y : Int} (h : y = -x) (k : c ∣ x) : c ∣ y := by rw [h]; exact Int.dvd_neg.2 k
theorem det3_dvd {a b c f g e : V} {p q s : Nat} (h1 : Span [a, b, c] f) (h2 : Span [a, b, c] g) (h3 : Span [a, b, c] e) : det3 a b c p q s ∣ det3 f g e p q s := by
  refine dvd_lin (f := fun v => det3 v g e p q s) (by simp [det3]) (fun v k u => by simp only [det3, Hnf.sub]; grind) (fun x hx => ?_) h1
  refine dvd_lin (f := fun v => det3 x v e p q s) (by simp [det3, det2]) (fun v k u => by simp only [det3, det2, Hnf.sub]; grind) (fun y hy => ?_) h2
  refine dvd_lin (f := fun v => det3 x y v p q s) (by simp [det3, det2]) (fun v k u => by simp only [det3, det2, Hnf.sub]; grind) (fun z hz => ?_) h3
  have k0 : det3 a b c p q s ∣ det3 a b c p q s := ⟨1, by simp⟩
  have k1 : det3 a b c p q s ∣ det3 a c b p q s := dvd_n (det3_sw23 _ _ _ _ _ _) k0
  have k2 : det3 a b c p q s ∣ det3 b a c p q s := dvd_n (det3_sw12 _ _ _ _ _ _) k0
  have k3 : det3 a b c p q s ∣ det3 b c a p q s := dvd_n (det3_sw23 _ _ _ _ _ _) k2
  have k4 : det3 a b c p q s ∣ det3 c a b p q s := dvd_n (det3_sw12 _ _ _ _ _ _) k1
  have k5 : det3 a b c p q s ∣ det3 c b a p q s := dvd_n (det3_sw23 _ _ _ _ _ _) k4
  simp only [List.mem_cons, List.not_mem_nil, or_false] at hx hy hz
  by_cases e1 : x = y
  · subst e1; exact dvd_z _ (det3_e12 _ _ _ _ _)
  by_cases e2 : y = z
  · subst e2; exact dvd_z _ (det3_e23 _ _ _ _ _)
  by_cases e3 : x = z
  · subst e3; exact dvd_z _ (det3_e13 _ _ _ _ _)
  rcases hx with rfl | rfl | rfl <;> rcases hy with rfl | rfl | rfl <;> rcases hz with rfl | rfl | rfl <;> first | assumption | exact absurd rfl (by assumption)
theorem det4_sw12 (x y z t : V) (p q s u : Nat) : det4 y x z t p q s u = -det4 x y z t p q s u := by simp only [det4, det3, det2]; grind
theorem det4_sw23 (x y z t : V) (p q s u : Nat) : det4 x z y t p q s u = -det4 x y z t p q s u := by simp only [det4, det3, det2]; grind
theorem det4_sw34 (x y z t : V) (p q s u : Nat) : det4 x y t z p q s u = -det4 x y z t p q s u := by simp only [det4, det3, det2]; grind
theorem neg_self0 {x : Int} (h : x = -x) : x = 0 := by omega
theorem det4_e12 (x z t : V) (p q s u : Nat) : det4 x x z t p q s u = 0 := neg_self0 (det4_sw12 x x z t p q s u)
theorem det4_e23 (x z t : V) (p q s u : Nat) : det4 t x x z p q s u = 0 := neg_self0 (det4_sw23 t x x z p q s u)
theorem det4_e34 (x z t : V) (p q s u : Nat) : det4 t z x x p q s u = 0 := neg_self0 (det4_sw34 t z x x p q s u)
theorem det4_e13 (x z t : V) (p q s u : Nat) : det4 x z x t p q s u = 0 := by rw [det4_sw23, det4_e12]; rfl
theorem det4_e24 (x z t : V) (p q s u : Nat) : det4 t x z x p q s u = 0 := by rw [det4_sw34, det4_e23]; rfl
theorem det4_e14 (x z t : V) (p q s u : Nat) : det4 x z t x p q s u = 0 := by rw [det4_sw34, det4_e13]; rfl
set_option maxHeartbeats 1000000 in
theorem det4_dvd {a b c d f g e h : V} {p q s u : Nat} (h1 : Span [a, b, c, d] f) (h2 : Span [a, b, c, d] g) (h3 : Span [a, b, c, d] e) (h4 : Span [a, b, c, d] h) : det4 a b c d p q s u ∣ det4 f g e h p q s u := by
  refine dvd_lin (f := fun v => det4 v g e h p q s u) (by simp [det4]) (fun v k u => by simp only [det4, Hnf.sub]; grind) (fun x hx => ?_) h1
  refine dvd_lin (f := fun v => det4 x v e h p q s u) (by simp [det4, det3]) (fun v k u => by simp only [det4, det3, Hnf.sub]; grind) (fun y hy => ?_) h2
  refine dvd_lin (f := fun v => det4 x y v h p q s u) (by simp [det4, det3, det2]) (fun v k u => by simp only [det4, det3, det2, Hnf.sub]; grind) (fun z hz => ?_) h3
  refine dvd_lin (f := fun v => det4 x y z v p q s u) (by simp [det4, det3, det2]) (fun v k u => by simp only [det4, det3, det2, Hnf.sub]; grind) (fun t ht => ?_) h4
  have S1 : ∀ {x y z t : V}, det4 a b c d p q s u ∣ det4 x y z t p q s u → det4 a b c d p q s u ∣ det4 y x z t p q s u := fun k => dvd_n (det4_sw12 _ _ _ _ _ _ _ _) k
  have S2 : ∀ {x y z t : V}, det4 a b c d p q s u ∣ det4 x y z t p q s u → det4 a b c d p q s u ∣ det4 x z y t p q s u := fun k => dvd_n (det4_sw23 _ _ _ _ _ _ _ _) k
  have S3 : ∀ {x y z t : V}, det4 a b c d p q s u ∣ det4 x y z t p q s u → det4 a b c d p q s u ∣ det4 x y t z p q s u := fun k => dvd_n (det4_sw34 _ _ _ _ _ _ _ _) k
  have k0 : det4 a b c d p q s u ∣ det4 a b c d p q s u := ⟨1, by simp⟩
  have k1 := S3 k0
  have k2 := S2 k0
  have k3 := S3 k2
  have k4 := S2 k1
  have k5 := S3 k4
  have l0 := S1 k0
  have l1 := S1 k1
  have l2 := S2 l0
  have l3 := S3 l2
  have l4 := S2 l1
  have l5 := S3 l4
  have m0 := S1 k2
  have m1 := S1 k3
  have m2 := S2 m0
  have m3 := S3 m2
  have m4 := S2 m1
  have m5 := S3 m4
  have n0 := S1 k4
  have n1 := S1 k5
  have n2 := S2 n0
  have n3 := S3 n2
  have n4 := S2 n1
  have n5 := S3 n4
  clear S1 S2 S3
  simp only [List.mem_cons, List.not_mem_nil, or_false] at hx hy hz ht
  by_cases e1 : x = y
  · subst e1; exact dvd_z _ (det4_e12 _ _ _ _ _ _ _)
  by_cases e2 : y = z
  · subst e2; exact dvd_z _ (det4_e23 _ _ _ _ _ _ _)
  by_cases e3 : z = t
  · subst e3; exact dvd_z _ (det4_e34 _ _ _ _ _ _ _)
  by_cases e4 : x = z
  · subst e4; exact dvd_z _ (det4_e13 _ _ _ _ _ _ _)
  by_cases e5 : y = t
  · subst e5; exact dvd_z _ (det4_e24 _ _ _ _ _ _ _)
  by_cases e6 : x = t
  · subst e6; exact dvd_z _ (det4_e14 _ _ _ _ _ _ _)
  rcases hx with rfl | rfl | rfl | rfl <;> rcases hy with rfl | rfl | rfl | rfl <;> first | exact absurd rfl e1 | (rcases hz with rfl | rfl | rfl | rfl <;> first | exact absurd rfl e2 | exact absurd rfl e4 | (rcases ht with rfl | rfl | rfl | rfl <;> first | exact absurd rfl e3 | exact absurd rfl e5 | exact absurd rfl e6 | assumption))
end Go.Proofs.YtokjolmpdfmnbaaGreatDoor
namespace Go.Proofs.YtokjolmpdfmnbaaGreatDoor
open Hnf
def Z0 : V := fun _ => 0
def detV (P : Nat → Nat) : List V → Int
  | [] => 1
  | [a] => a (P 0)
  | [a, b] => det2 a b (P 0) (P 1)
  | [a, b, c] => det3 a b c (P 0) (P 1) (P 2)
  | [a, b, c, d] => det4 a b c d (P 0) (P 1) (P 2) (P 3)
  | _ => 0
theorem detV_dvd {P : Nat → Nat} {A B : List V} (hl : B.length = A.length) (h4 : A.length ≤ 4) (hs : ∀ v ∈ B, Span A v) : detV P A ∣ detV P B := by
  match A, B, hl, h4 with
  | [], [], _, _ => exact ⟨1, rfl⟩
  | [a], [f], _, _ => exact det1_dvd (hs f (by simp))
  | [a, b], [f, g], _, _ => exact det2_dvd (hs f (by simp)) (hs g (by simp))
  | [a, b, c], [f, g, e], _, _ => exact det3_dvd (hs f (by simp)) (hs g (by simp)) (hs e (by simp))
  | [a, b, c, d], [f, g, e, h], _, _ => exact det4_dvd (hs f (by simp)) (hs g (by simp)) (hs e (by simp)) (hs h (by simp))
  | _ :: _ :: _ :: _ :: _ :: _, _, _, h => simp at h
theorem detV_zero {P : Nat → Nat} {A : List V} (h4 : A.length ≤ 3) : detV P (A ++ [Z0]) = 0 := by
  match A, h4 with
  | [], _ => rfl
  | [a], _ => simp [detV, det2, Z0]
  | [a, b], _ => simp [detV, det3, det2, Z0]
  | [a, b, c], _ => simp [detV, det4, det3, det2, Z0]
  | _ :: _ :: _ :: _ :: _, h => simp at h
def prP (P : Nat → Nat) (G : Mx) : Nat → Int
  | 0 => 1
  | i + 1 => prP P G i * eM G i (P i)
theorem detV_tri {P : Nat → Nat} {G : Mx} (h4 : G.length ≤ 4) (h0 : ∀ i k, k < i → i < G.length → eM G i (P k) = 0) : detV P (latM G) = prP P G G.length := by
  match G, h4 with
  | [], _ => rfl
  | [a], _ => simp [detV, latM, prP, eM, vr]
  | [a, b], _ =>
    have z1 := h0 1 0 (by omega) (by simp)
    simp only [eM, List.getD_cons_succ, List.getD_cons_zero] at z1
    simp only [detV, latM, List.map, List.length, prP, eM, det2, vr, List.getD_cons_succ, List.getD_cons_zero, z1]
    grind
  | [a, b, c], _ =>
    have z1 := h0 1 0 (by omega) (by simp)
    have z2 := h0 2 0 (by omega) (by simp)
    have z3 := h0 2 1 (by omega) (by simp)
    simp only [eM, List.getD_cons_succ, List.getD_cons_zero] at z1 z2 z3
    simp only [detV, latM, List.map, List.length, prP, eM, det3, det2, vr, List.getD_cons_succ, List.getD_cons_zero, z1, z2, z3]
    grind
  | [a, b, c, d], _ =>
    have z1 := h0 1 0 (by omega) (by simp)
    have z2 := h0 2 0 (by omega) (by simp)
    have z3 := h0 2 1 (by omega) (by simp)
    have z4 := h0 3 0 (by omega) (by simp)
    have z5 := h0 3 1 (by omega) (by simp)
    have z6 := h0 3 2 (by omega) (by simp)
    simp only [eM, List.getD_cons_succ, List.getD_cons_zero] at z1 z2 z3 z4 z5 z6
    simp only [detV, latM, List.map, List.length, prP, eM, det4, det3, det2, vr, List.getD_cons_succ, List.getD_cons_zero, z1, z2, z3, z4, z5, z6]
    grind
  | _ :: _ :: _ :: _ :: _ :: _, h => simp at h
theorem prP_pos {P : Nat → Nat} {G : Mx} : ∀ i, i ≤ G.length → (∀ k, k < G.length → 0 < eM G k (P k)) → 0 < prP P G i
  | 0, _, _ => by simp [prP]
  | i + 1, h, hp => Int.mul_pos (prP_pos i (by omega) hp) (hp i (by omega))
theorem IsH.tri {n : Nat} {ps : List Nat} {F : Mx} (h : IsH n ps F) : ∀ i k, k < i → i < F.length → eM F i (ps.getD k 0) = 0 := fun i k hki hi => h.left i hi _ (h.inc k i hki hi)
theorem IsH.det {n : Nat} {ps : List Nat} {F : Mx} (h : IsH n ps F) (h4 : F.length ≤ 4) : detV (fun i => ps.getD i 0) (latM F) = prP (fun i => ps.getD i 0) F F.length ∧ 0 < prP (fun i => ps.getD i 0) F F.length :=
  ⟨detV_tri h4 h.tri, prP_pos _ (Nat.le_refl _) h.pos⟩
end Go.Proofs.YtokjolmpdfmnbaaGreatDoor
namespace Go.Proofs.YtokjolmpdfmnbaaGreatDoor
open Hnf (V Span Ech Red)
theorem I_one : I 1 = .string ⟨#[49]⟩ := by unfold I S; rw [show (1 : Int) = ((1 : Nat) : Int) from rfl, itoa_nat, Lib.decDigits]; rfl
def pivP (F G : Mx) : Nat → Int
  | 0 => 1
  | i + 1 => pivP F G i * eM G i (pv (F.getD i []))
theorem pivP_pos {F : Mx} (h0 : ∀ i, i < F.length → 0 < eM F i (pv (F.getD i []))) : ∀ i, i ≤ F.length → 0 < pivP F F i
  | 0, _ => by simp [pivP]
  | i + 1, h => Int.mul_pos (pivP_pos h0 i (by omega)) (h0 i (by omega))
theorem isH_pvi {n : Nat} {ps : List Nat} {F : Mx} (h : IsH n ps F) {i : Nat} (hi : i < F.length) : pv (F.getD i []) = ps.getD i 0 := by
  rw [isH_pv h, getD_map pv F i hi 0 []]
theorem isH_pvp {n : Nat} {ps : List Nat} {F : Mx} (h : IsH n ps F) : ∀ i, i < F.length → pv (F.getD i []) < n ∧ 0 < (F.getD i []).getD (pv (F.getD i [])) 0 := fun i hi => by
  rw [isH_pvi h hi]
  exact ⟨h.lt i hi, h.pos i hi⟩
theorem isH_diag {n : Nat} {ps : List Nat} {G : Mx} (hI : IsH n ps G) (hl : G.length = n) : ∀ i, i < n → ps.getD i 0 = i := by
  have hge : ∀ i, i < n → i ≤ ps.getD i 0 := by
    intro i
    induction i with
    | zero => intro _; omega
    | succ i ih => intro hi; have := ih (by omega); have := hI.inc i (i + 1) (by omega) (by omega); omega
  have hle : ∀ d i, i + d + 1 = n → ps.getD i 0 + d + 1 ≤ n := by
    intro d
    induction d with
    | zero => intro i hi; have := hI.lt i (by omega); omega
    | succ d ih => intro i hi; have := ih (i + 1) (by omega); have := hI.inc i (i + 1) (by omega) (by omega); omega
  intro i hi
  have := hge i hi
  have := hle (n - i - 1) i (by omega)
  omega
theorem mul_one_pos {a b : Int} (ha : 0 < a) (hb : 0 < b) (h : a * b = 1) : a = 1 ∧ b = 1 := by
  have h1 : a.natAbs * b.natAbs = 1 := by rw [← Int.natAbs_mul, h]; rfl
  have h2 := Nat.eq_one_of_mul_eq_one_right h1
  have h3 := Nat.eq_one_of_mul_eq_one_left h1
  omega
theorem uni_law {n : Nat} {ps : List Nat} {G : Mx} (hI : IsH n ps G) (hl : G.length = n) : (∀ i, i < n → eM G i i = 1) ↔ pivP G G G.length = 1 := by
  have hd := isH_diag hI hl
  have hp : ∀ i, i < n → pv (G.getD i []) = i := fun i hi => by rw [isH_pvi hI (by omega), hd i hi]
  have hpos : ∀ i, i < G.length → 0 < eM G i (pv (G.getD i [])) := fun i hi => (isH_pvp hI i hi).2
  rw [hl]
  have key : ∀ k, k ≤ n → ((∀ i, i < k → eM G i i = 1) ↔ pivP G G k = 1) := by
    intro k
    induction k with
    | zero => intro _; exact ⟨fun _ => rfl, fun _ i h => by omega⟩
    | succ k ih =>
      intro hk
      have ih := ih (by omega)
      rw [pivP, hp k (by omega)]
      have h1 := pivP_pos hpos k (by omega)
      have h2 := hpos k (by omega)
      rw [hp k (by omega)] at h2
      constructor
      · intro h
        rw [ih.1 fun i hi => h i (by omega), h k (by omega)]; rfl
      · intro h i hi
        obtain ⟨e1, e2⟩ := mul_one_pos h1 h2 h
        by_cases e : i = k
        · rw [e]; exact e2
        · exact ih.2 e1 i (by omega)
  exact key n (Nat.le_refl _)
end Go.Proofs.YtokjolmpdfmnbaaGreatDoor
namespace Go.Proofs.YtokjolmpdfmnbaaGreatDoor
open Go.RowKit Go.Sort
end Go.Proofs.YtokjolmpdfmnbaaGreatDoor
namespace Go.Proofs.YtokjolmpdfmnbaaGreatDoor
open Go.RowKit Go.Sort
theorem MatX.mono {B B' : Nat} {w : World} {v : Value} {n : Nat} {F : Mx} {ad : List (Nat × Nat)} (h : MatX B w v n F ad) (hB : B' ≤ B) : MatX B' w v n F ad :=
  ⟨h.len, h.rect, ownsRow_mono h.own hB, fun i a b => (h.row i a b).mono hB, h.dis⟩
set_option maxRecDepth 100000 in
set_option maxHeartbeats 2000000 in
theorem Make08X_any {w : World} {cs : Array Value} {R C : Nat} {es : List Int} (hG : ShapeV cs R C es) :
    Calls Tryz.prog 9 #[.agg cs] w fun e w' => ∃ v, e = .returned v ∧ (∃ ad, MatX w.heap.size w' v (C % 4) (shM es (C % 4) (R % 4)) ad) ∧ Ext w w' := by
  have h0 := sh_cell (w := w) (T := 25) hG.c0
  have h1 := sh_cell (w := w) (T := 25) hG.c1
  have Hent := Lib.hid (fun j hj => sh_cell (w := w) (T := 25) (hG.ent j hj))
  have Hrng := Lib.hid hG.rng
  have hR := hG.r8
  have hC := hG.c8
  have hEw := (Ext.refl w).alloc (.cells cs 25)
  have hsz : w.heap.size < (w.alloc (.cells cs 25)).heap.size := by simp
  obtain ⟨i0, hi, hz0, hz1, hz2⟩ := info_parts Tryz.infoInt
  obtain ⟨m, hm⟩ : ∃ m, m = R % 4 := ⟨_, rfl⟩
  obtain ⟨n, hn⟩ : ∃ n, n = C % 4 := ⟨_, rfl⟩
  have hmI : (R : Int) % 4 = (m : Int) := by omega
  have hnI : (C : Int) % 4 = (n : Int) := by omega
  have hm4 : m < 4 := by omega
  have hn4 : n < 4 := by omega
  rw [← hm, ← hn]
  clear hm hn hG
  go_enter Tryz.func9, Tryz.ntmps9
  go_wp2_with fail
  generalize (w.alloc (.cells cs 25)) = V at *
  go_loopw [3, 4] (fun out idx wr => ∃ i : Nat, i ≤ m ∧ idx = .int .i64 i ∧ Hid (∃ ad, MatX V.heap.size wr out n (shM es n i) ad) ∧ Ext V wr) (fun _ idx _ => m - (intOf idx).toNat)
  case atStart => exact ⟨0, by omega, by go_num, Lib.hid ⟨[], MatX.nil _ _ _⟩, Ext.refl _⟩
  case round =>
    obtain ⟨i, hi', rfl, hO, hE⟩ := hrel
    generalize wr = X at *
    have h0X := hE.cell h0
    have h1X := hE.cell h1
    by_cases hlt : i < m
    · have hii : (i : Int) < (m : Int) := by omega
      go_wp2_with (at_make; refine wpList_make_full _ rfl _ _ 32 rfl X.heap.size 3 i0 (.int .i64 0) 1 Tryz.underlying32 hi hz0 hz1 .i64 .i64 _ _ n rfl rfl (by omega) (by omega) (by rw [hz2]; omega) (by unfold maxLen; omega) (Nat.le_refl _) ?_; intro w1 hown1 hgrow1)
      have hEm := ext_grown hgrow1
      obtain ⟨gx, hgx⟩ : ∃ gx, gx = X.heap.size := ⟨_, rfl⟩
      have hb0 : OwnV 3 X.heap.size w1 X.heap.size n (is (List.replicate n 0)) := row_ownV (zero_row hown1) (by simp)
      rw [← hgx] at hb0 ⊢
      have HO1 := Lib.hid hb0
      have hgle : X.heap.size ≤ gx := by omega
      have hVX := hE.size
      have Hgx := Lib.hid hgx
      clear hown1 hgrow1 hb0 hgx
      go_wp2_with fail
      go_loopw [6] (fun kv wr => ∃ k : Nat, k ≤ n ∧ kv = .int .i64 k ∧ Hid (OwnV 3 gx wr gx n (is (shTo es n i k))) ∧ Ext X wr) (fun kv _ => n - (intOf kv).toNat)
      case atStart => exact ⟨0, by omega, by go_num, Lib.hid (by rw [shTo_zero]; exact HO1.out), hEm⟩
      case round =>
        obtain ⟨k, hk, rfl, hI, hEX⟩ := hrel
        generalize wr = Y at *
        by_cases hlt2 : k < n
        · have hki : (k : Int) < (n : Int) := by omega
          obtain ⟨z, hz⟩ : ∃ z, z = es.getD (3 * i + k) 0 := ⟨_, rfl⟩
          have cz := (hE.trans hEX).cell (Hent.out (3 * i + k) (by omega))
          rw [← hz] at cz
          have hzr := Hrng.out (3 * i + k) (by omega)
          rw [← hz] at hzr
          have hset := shTo_set es (i := i) hlt2
          have he : shE es i k = z.tmod 10 := by unfold shE; rw [hz]
          rw [he] at hset
          have Hset := Lib.hid hset
          have hi3 : (3 * (i : Int) + k) < 9 := by omega
          have hq : -9 ≤ z.tmod 10 ∧ z.tmod 10 ≤ 9 := by rw [← he]; exact shE_b es i k
          obtain ⟨u, hu⟩ := (show ∃ u, Y.cell? ⟨gx, k, none⟩ = some u from ⟨_, hI.out.cell (j := k) (by rw [is_length, shTo_length es (by omega)]; exact hlt2)⟩)
          have fz := hI.out.frozen k
          obtain ⟨hO6, hG6⟩ := hI.out.set k (.int .i64 (z.tmod 10))
          rw [← is_set, Hset.out] at hO6
          have HO6 := Lib.hid hO6
          have hE6 := Lib.hid (ext_trans_grown hEX hG6 hgle)
          clear hO6 hG6 hz hset he
          go_wp2_with fail
          go_roundw
          case rel => exact ⟨k + 1, by omega, by go_num, HO6, hE6.out⟩
          case measure => simp [intOf] <;> omega
        · have hke : k = n := by omega
          have hki : ¬ (k : Int) < (n : Int) := by omega
          have HR := Lib.hid (show OwnV 3 V.heap.size Y gx n (is (shRow es n i)) by
            have h2 := hI.out
            rw [hke, shTo_all] at h2
            exact h2.mono (show V.heap.size ≤ gx by omega))
          obtain ⟨ad, hO0⟩ := hO.out
          have Hnew := Lib.hid (show ∀ a ∈ ad, a.1 ≠ gx from fun a ha => by have := hO0.lt a ha; have := Hgx.out; omega)
          have Hrl := Lib.hid (show (shRow es n i).length = n by simp [shRow])
          have HOy := Lib.hid (hO0.ext hEX)
          have hEY := hE.trans hEX
          have hVY := hEY.size
          have HM9 := Lib.hid (show (shM es n i).length ≤ 1000000000 by rw [shM_length]; omega)
          have hMk := shM_length es n i
          have Hsn := Lib.hid (shM_snoc es n i)
          clear hke hI HO1 hEX hO0 hO
          generalize shM es n i = Mi at *
          go_wp2_with (at_builtin; refine app_matX rfl _ _ rfl rfl (HOy.out.ext ((Ext.refl _).alloc _)) rfl (b := Y.heap.size) (g0 := gx) (c0 := n) (by go_simp) (HR.out.ext ((Ext.refl _).alloc _)) Hrl.out Hnew.out HM9.out (by simp; omega) ?_; intro gg cap2 w8 hO8 hB8 hG8; rw [hMk] at hO8 ⊢)
          have hE8 : Ext V w8 := Below.trans (hEY.alloc (.cells #[.slice (some ⟨gx, 0, none⟩) n n] 32)) hB8
          rw [Hsn.out] at hO8
          have hO9 := Lib.hid (show ∃ ad, MatX V.heap.size w8 (slv gg (i + 1) cap2) n (shM es n (i + 1)) ad from ⟨_, hO8⟩)
          clear hG8 hB8 hO8
          go_wp2_with fail
          go_roundw
          case rel => exact ⟨i + 1, by omega, by go_num, hO9, hE8⟩
          case measure => simp [intOf] <;> omega
    · have hie : i = m := by omega
      have hii : ¬ (i : Int) < (m : Int) := by omega
      subst hie
      obtain ⟨ad, hO0⟩ := hO.out
      have Hres := Lib.hid (show MatX w.heap.size X _ n (shM es n i) ad from hO0.mono (by omega))
      clear hO hO0
      go_wp2_with fail
      go_ret
      exact ⟨_, rfl, ⟨ad, Hres.out⟩, hEw.trans hE⟩
end Go.Proofs.YtokjolmpdfmnbaaGreatDoor
namespace Go.Proofs.YtokjolmpdfmnbaaGreatDoor
open Go.RowKit Go.Sort
theorem MatX.outer {B : Nat} {w : World} {g cap n L : Nat} {F : Mx} {ad : List (Nat × Nat)} (h : MatX B w (slv g L cap) n F ad) (hL : L = F.length) : OwnV 32 B w g cap (hdX n ad) := by
  subst hL
  unfold OwnV
  rw [hdX_length, h.len]; exact h.own
theorem MatX.ne {B : Nat} {w : World} {g cap n L : Nat} {F : Mx} {ad : List (Nat × Nat)} (h : MatX B w (slv g L cap) n F ad) {i : Nat} (hi : i < ad.length) : ad[i].1 ≠ g := fun e => by
  have hi' : i < F.length := by rw [← h.len]; exact hi
  have := own_ne (ownV_row (n := n) (h.row i hi' hi) (h.rect _ (List.getElem_mem hi'))) h.own (by decide) (g := ad[i].1) rfl
  exact this (by rw [e]; rfl)
theorem MatX.hd {B : Nat} {w : World} {g cap n L : Nat} {F : Mx} {ad : List (Nat × Nat)} (h : MatX B w (slv g L cap) n F ad) (hL : L = F.length) {i : Nat} (hi : i < ad.length) : w.cell? ⟨g, i, none⟩ = some (slv ad[i].1 n ad[i].2) := by
  have h1 := (h.outer hL).cell (j := i) (by rw [hdX_length]; exact hi)
  rw [hdX_get n hi] at h1
  exact h1
theorem MatX.setRow {B : Nat} {w w' : World} {g cap n L i : Nat} {F : Mx} {ad : List (Nat × Nat)} {r : List Int} (h : MatX B w (slv g L cap) n F ad) (hL : L = F.length) (hi : i < ad.length) (hO : OwnV 3 B w' ad[i].1 ad[i].2 (is r)) (hG : w.grownBy w' (some ad[i].1)) (hr : r.length = n) : MatX B w' (slv g L cap) n (F.set i r) ad := by
  have hout := (h.outer hL).other hG (Ne.symm (h.ne hi))
  refine ⟨by rw [List.length_set]; exact h.len, rect_set h.rect hr, ?_, fun k hk hk' => ?_, h.dis⟩
  · unfold OwnV at hout
    rw [hdX_length, h.len] at hout
    rw [List.length_set, hL]; exact hout
  · by_cases e : i = k
    · subst e
      rw [List.getElem_set_self]; exact hO
    · rw [List.getElem_set_ne e]
      refine (h.row k (by simpa using hk) hk').other hG ?_
      rcases Nat.lt_or_gt_of_ne e with hlt | hlt
      · exact Ne.symm (h.dis i k hi hk' hlt)
      · exact h.dis k i hk' hi hlt
def mixT (r s : List Int) (q : Int) (n k : Nat) : List Int := (List.range n).map fun j => if j < k then r.getD j 0 - q * s.getD j 0 else r.getD j 0
@[simp] theorem mixT_length (r s : List Int) (q : Int) (n k : Nat) : (mixT r s q n k).length = n := by simp [mixT]
def colT (M : Mx) (k n : Nat) : List Int := (List.range n).map fun r => eM M r k
def colP (M : Mx) (N k n : Nat) : List Int := (List.range N).map fun r => if r < n then eM M r k else 0
def trT (M : Mx) (N c : Nat) : Mx := (List.range c).map fun k => colT M k N
@[simp] theorem colP_length (M : Mx) (N k n : Nat) : (colP M N k n).length = N := by simp [colP]
@[simp] theorem colT_length (M : Mx) (k N : Nat) : (colT M k N).length = N := by simp [colT]
@[simp] theorem trT_length (M : Mx) (N c : Nat) : (trT M N c).length = c := by simp [trT]
theorem ncols_of {M : Mx} {c : Nat} (h : 0 < M.length) (hR : Rect c M) : ncols M = c := by
  unfold ncols; rw [getD_get h]; exact hR _ (List.getElem_mem h)
end Go.Proofs.YtokjolmpdfmnbaaGreatDoor
namespace Go.Proofs.YtokjolmpdfmnbaaGreatDoor
open Go.RowKit Go.Sort
set_option maxRecDepth 100000 in
set_option maxHeartbeats 1000000 in
theorem least0_w {w : World} {p n cap : Nat} {sa : Option Addr} (h0 : w.cell? ⟨p, 0, none⟩ = some (.slice sa n cap)) (h3 : w.cell? ⟨p, 3, none⟩ = some (.int .i64 0)) (hn : n ≤ 1000) :
    Calls Tryz.prog 110 #[.pointer (some ⟨p, 0, none⟩), .int .i64 0] w fun e w' => e = .returned (.tuple #[.int .i64 0, .int .i64 0, .bool false]) ∧ Ext w w' := by
  go_enter Tryz.func110, Tryz.ntmps110
  go_wp2_with fail
  go_loopw [4, 5, 6, 7, 8] (fun a b f iv _ wr => ∃ i : Nat, i ≤ n ∧ iv = .int .i64 i ∧ a = .int .i64 0 ∧ b = .int .i64 0 ∧ f = .bool false ∧ Hid (wr = w)) (fun _ _ _ iv _ _ => n - (intOf iv).toNat)
  case atStart => exact ⟨0, by omega, by go_num, rfl, rfl, rfl, Lib.hid rfl⟩
  case round =>
    obtain ⟨i, hi, rfl, rfl, rfl, rfl, hw⟩ := hrel
    obtain rfl := hw.out
    by_cases hlt : i < n
    · have hii : (i : Int) < (n : Int) := by omega
      go_wp2_with fail
      go_loop [4, 5, 6, 8] (fun a b f idx => a = .int .i64 0 ∧ b = .int .i64 0 ∧ f = .bool false ∧ idx = .int .i64 0) (fun _ _ _ _ => 0)
      case atStart => exact ⟨rfl, rfl, rfl, rfl⟩
      case round =>
        obtain ⟨rfl, rfl, rfl, rfl⟩ := hrel
        go_wp2_with fail
        go_roundw
        case rel => exact ⟨i + 1, by omega, by go_num, rfl, rfl, rfl, Lib.hid (by first | rfl | trivial)⟩
        case measure => simp [intOf] <;> omega
    · have hii : ¬ (i : Int) < (n : Int) := by omega
      go_wp2_with fail
      go_ret3
      exact ⟨rfl, Ext.refl _⟩
theorem grid_set {w1 w2 w4 : World} {va v : Value} {M : Mx} (h : GridR w1 va M) (he : Ext w1 w4) (hs : w1.heap.size ≤ w2.heap.size) : GridR (w4.setCell ⟨w2.heap.size, 2, none⟩ v) va M := by
  have hx : Ext w1 (w4.setCell ⟨w2.heap.size, 2, none⟩ v) := ext_trans_grown he (grown_set _ _ _ _) hs
  exact h.ext hx
def Dia0 (w : World) (M : Mx) (e : Ending) (w' : World) : Prop := ∃ p va, e = .returned (.tuple #[.pointer (some ⟨p, 0, none⟩), .int .i64 0]) ∧ w'.cell? ⟨p, 0, none⟩ = some va ∧ GridR w' va M ∧ Ext w w'
set_option maxRecDepth 100000 in
set_option maxHeartbeats 4000000 in
theorem diagonal0_any {w : World} {v : Value} {M : Mx} (hM : MatR w v M) (hR : Rect 0 M) (hn : M.length ≤ 12) (hL : Laid w) : Calls Tryz.prog 58 #[v] w (Dia0 w M) := by
  have hbig := Lib.hid (sbig_any (w := w) hM (by omega) (fun r hr => by rw [hR r hr]; omega) (fun r hr z hz => by have h1 := hR r hr; have h2 : r = [] := List.eq_nil_of_length_eq_zero h1; rw [h2] at hz; cases hz) hL)
  have hrow := fun (h0 : 0 < M.length) => (show ∃ s0 c0, v = .slice (some s0) M.length c0 ∧ ∃ sr cr, w.cell? s0 = some (.slice sr 0 cr) from by
    obtain ⟨sa, gb, go, cp, vs, rfl, hcp, hvl, hS, hr⟩ := hM
    obtain ⟨sr, br, or, cr, hrow, _, _⟩ := MatR.row hS hvl hr h0
    obtain rfl := hS.addr (by omega)
    rw [hR _ (List.getElem_mem h0)] at hrow
    exact ⟨_, _, rfl, _, _, hrow⟩)
  obtain ⟨sa, gb, go, cp, vs, rfl, hcp, hvl, hS, hr⟩ := hM
  obtain ⟨n, hnn⟩ : ∃ n, n = M.length := ⟨_, rfl⟩
  have hun := Lib.hid (fun W => sunit_any (w := W) (n := n) (by omega))
  have huc := Lib.hid (fun W => sunit_any (w := W) (n := 0) (by omega))
  rw [← hnn] at hbig hrow hn ⊢
  have Hnn := Lib.hid hnn
  clear hS hvl hr hcp hL hnn
  rcases Nat.eq_zero_or_pos n with hn0 | hn0
  · subst hn0
    go_enter Tryz.func58, Tryz.ntmps58
    go_wp2_with fail
    refine hbig.out.mono ?_
    rintro e w1 ⟨v1, ad1, rfl, hG1, hX1⟩
    go_wp2_with fail
    refine (hun.out w1).mono ?_
    rintro e w2 ⟨v2, ad2, rfl, hG2, hX2⟩
    obtain ⟨ga, ca, rfl, hca, hs1⟩ := hG1.shape
    obtain ⟨gl, cl, rfl, hcl, hs2⟩ := hG2.shape
    rw [← Hnn.out] at hca ⊢
    rw [unitM_length] at hcl ⊢
    have HG1 := Lib.hid hG1.gridR
    clear hG1 hG2 hbig hun hs1 hs2
    go_wp2_with fail
    obtain ⟨W3, hW3⟩ : ∃ W3, W3 = w2.alloc (.cells #[.slice ga 0 ca, .slice gl 0 cl, .slice none 0 0, .int .i64 0] 115) := ⟨_, rfl⟩
    have c0 : W3.cell? ⟨w2.heap.size, 0, none⟩ = some (.slice ga 0 ca) := by rw [hW3]; go_simp
    have c2 : W3.cell? ⟨w2.heap.size, 2, none⟩ = some (.slice none 0 0) := by rw [hW3]; go_simp
    have c3 : W3.cell? ⟨w2.heap.size, 3, none⟩ = some (.int .i64 0) := by rw [hW3]; go_simp
    have fz : W3.frozen? ⟨w2.heap.size, 2, none⟩ = false := by rw [hW3]; go_simp
    have hX3 : Ext w2 W3 := by rw [hW3]; exact (Ext.refl w2).alloc _
    have hs3 : w2.heap.size < W3.heap.size := by rw [hW3]; simp
    rw [← hW3]
    clear hW3
    refine (huc.out W3).mono ?_
    rintro e w4 ⟨v4, ad4, rfl, hG4, hX4⟩
    obtain ⟨gr, cr4, rfl, hcr4, hs4⟩ := hG4.shape
    rw [unitM_length] at hcr4 ⊢
    have d0 := hX4.cell c0
    have d2 := hX4.cell c2
    have d3 := hX4.cell c3
    have fz4 : w4.frozen? ⟨w2.heap.size, 2, none⟩ = false := (Ext.frozen (a := W3) (b := w4) hX4 (by exact hs3)).trans fz
    have hX14 := (hX1.trans hX2).trans (hX3.trans hX4)
    have HG5 := Lib.hid (HG1.out.ext (hX2.trans (hX3.trans hX4)))
    clear hG4 huc c0 c2 c3 fz hs4
    go_wp2_with fail
    have hsz4 := hX4.size
    have hsw1 := hX1.size
    have hsw2 := hX2.size
    have hG6 : w4.grownBy (w4.setCell ⟨w2.heap.size, 2, none⟩ (.slice gr 0 cr4)) (some w2.heap.size) := grown_set _ _ _ _
    have hX5 : Ext w (w4.setCell ⟨w2.heap.size, 2, none⟩ (.slice gr 0 cr4)) := ext_trans_grown hX14 hG6 (by omega)
    have e0 : (w4.setCell ⟨w2.heap.size, 2, none⟩ (.slice gr 0 cr4)).cell? ⟨w2.heap.size, 0, none⟩ = some (.slice ga 0 ca) := by rw [World.cell?_setCell_other (h := by simp)]; exact d0
    have e3 : (w4.setCell ⟨w2.heap.size, 2, none⟩ (.slice gr 0 cr4)).cell? ⟨w2.heap.size, 3, none⟩ = some (.int .i64 0) := by rw [World.cell?_setCell_other (h := by simp)]; exact d3
    have HX2 := Lib.hid (hX1.trans hX2)
    obtain ⟨p, hp⟩ : ∃ p, p = w2.heap.size := ⟨_, rfl⟩
    have hgX := grid_set (v := .slice gr 0 cr4) HG1.out (hX2.trans (hX3.trans hX4)) (by omega : w1.heap.size ≤ w2.heap.size)
    rw [← Hnn.out] at hgX
    have HgX := Lib.hid hgX
    clear hgX
    generalize hW5 : World.setCell w4 _ _ = W5 at *
    rw [← hp] at e0 e3 ⊢
    have hle := Lib.hid (fun W (hW : Ext W5 W) => least0_w (hW.cell e0) (hW.cell e3) (by omega))
    clear hW5 d0 d2 d3 fz4 hG6 HG1 HG5 hp
    go_wp2_with fail
    go_loop [5] (fun idx => idx = .int .i64 0) (fun _ => 0)
    case atStart => rfl
    case round =>
      obtain rfl := hrel
      go_wp2_with fail
      refine (hle.out _ (Ext.refl _)).mono ?_
      rintro e w6 ⟨rfl, hE6⟩
      have Hres := Lib.hid (show Dia0 w M (.returned (.tuple #[.pointer (some ⟨p, 0, none⟩), .int .i64 0])) w6 from ⟨p, _, rfl, hE6.cell e0, by rw [show (Value.slice ga 0 ca) = .slice ga 0 ca from rfl]; exact HgX.out.ext hE6, hX5.trans hE6⟩)
      clear e0 e3 hle
      go_wp2_with fail
      go_ret2
      exact Hres.out
  · obtain ⟨s0, k0, he, sr, cr, hrc⟩ := hrow hn0
    injection he with he1 _ he3
    subst he1 he3
    have hnI : (0 : Int) < (n : Int) := by omega
    clear hrow
    go_enter Tryz.func58, Tryz.ntmps58
    go_wp2_with fail
    refine hbig.out.mono ?_
    rintro e w1 ⟨v1, ad1, rfl, hG1, hX1⟩
    go_wp2_with fail
    refine (hun.out w1).mono ?_
    rintro e w2 ⟨v2, ad2, rfl, hG2, hX2⟩
    obtain ⟨ga, ca, rfl, hca, hs1⟩ := hG1.shape
    obtain ⟨gl, cl, rfl, hcl, hs2⟩ := hG2.shape
    rw [← Hnn.out] at hca ⊢
    rw [unitM_length] at hcl ⊢
    have HG1 := Lib.hid hG1.gridR
    have hrow1 := (hX1.trans hX2).cell hrc
    have hgb := World.block_lt_of_cell? _ _ hrow1
    clear hG1 hG2 hbig hun hs1 hs2
    go_wp2_with fail
    obtain ⟨W3, hW3⟩ : ∃ W3, W3 = w2.alloc (.cells #[.slice ga n ca, .slice gl n cl, .slice none 0 0, .int .i64 0] 115) := ⟨_, rfl⟩
    have c0 : W3.cell? ⟨w2.heap.size, 0, none⟩ = some (.slice ga n ca) := by rw [hW3]; go_simp
    have c2 : W3.cell? ⟨w2.heap.size, 2, none⟩ = some (.slice none 0 0) := by rw [hW3]; go_simp
    have c3 : W3.cell? ⟨w2.heap.size, 3, none⟩ = some (.int .i64 0) := by rw [hW3]; go_simp
    have fz : W3.frozen? ⟨w2.heap.size, 2, none⟩ = false := by rw [hW3]; go_simp
    have hX3 : Ext w2 W3 := by rw [hW3]; exact (Ext.refl w2).alloc _
    have hs3 : w2.heap.size < W3.heap.size := by rw [hW3]; simp
    rw [← hW3]
    clear hW3
    clear hrow1 hgb hrc
    refine (huc.out W3).mono ?_
    rintro e w4 ⟨v4, ad4, rfl, hG4, hX4⟩
    obtain ⟨gr, cr4, rfl, hcr4, hs4⟩ := hG4.shape
    rw [unitM_length] at hcr4 ⊢
    have d0 := hX4.cell c0
    have d2 := hX4.cell c2
    have d3 := hX4.cell c3
    have fz4 : w4.frozen? ⟨w2.heap.size, 2, none⟩ = false := (Ext.frozen (a := W3) (b := w4) hX4 (by exact hs3)).trans fz
    have hX14 := (hX1.trans hX2).trans (hX3.trans hX4)
    have HG5 := Lib.hid (HG1.out.ext (hX2.trans (hX3.trans hX4)))
    clear hG4 huc c0 c2 c3 fz hs4
    go_wp2_with fail
    have hsz4 := hX4.size
    have hsw1 := hX1.size
    have hsw2 := hX2.size
    have hG6 : w4.grownBy (w4.setCell ⟨w2.heap.size, 2, none⟩ (.slice gr 0 cr4)) (some w2.heap.size) := grown_set _ _ _ _
    have hX5 : Ext w (w4.setCell ⟨w2.heap.size, 2, none⟩ (.slice gr 0 cr4)) := ext_trans_grown hX14 hG6 (by omega)
    have e0 : (w4.setCell ⟨w2.heap.size, 2, none⟩ (.slice gr 0 cr4)).cell? ⟨w2.heap.size, 0, none⟩ = some (.slice ga n ca) := by rw [World.cell?_setCell_other (h := by simp)]; exact d0
    have e3 : (w4.setCell ⟨w2.heap.size, 2, none⟩ (.slice gr 0 cr4)).cell? ⟨w2.heap.size, 3, none⟩ = some (.int .i64 0) := by rw [World.cell?_setCell_other (h := by simp)]; exact d3
    have HX2 := Lib.hid (hX1.trans hX2)
    obtain ⟨p, hp⟩ : ∃ p, p = w2.heap.size := ⟨_, rfl⟩
    have hgX := grid_set (v := .slice gr 0 cr4) HG1.out (hX2.trans (hX3.trans hX4)) (by omega : w1.heap.size ≤ w2.heap.size)
    rw [← Hnn.out] at hgX
    have HgX := Lib.hid hgX
    clear hgX
    generalize hW5 : World.setCell w4 _ _ = W5 at *
    rw [← hp] at e0 e3 ⊢
    have hle := Lib.hid (fun W (hW : Ext W5 W) => least0_w (hW.cell e0) (hW.cell e3) (by omega))
    clear hW5 d0 d2 d3 fz4 hG6 HG1 HG5 hp
    go_wp2_with fail
    go_loop [5] (fun idx => idx = .int .i64 0) (fun _ => 0)
    case atStart => rfl
    case round =>
      obtain rfl := hrel
      go_wp2_with fail
      refine (hle.out _ (Ext.refl _)).mono ?_
      rintro e w6 ⟨rfl, hE6⟩
      have Hres := Lib.hid (show Dia0 w M (.returned (.tuple #[.pointer (some ⟨p, 0, none⟩), .int .i64 0])) w6 from ⟨p, _, rfl, hE6.cell e0, by rw [show (Value.slice ga n ca) = .slice ga n ca from rfl]; exact HgX.out.ext hE6, hX5.trans hE6⟩)
      clear e0 e3 hle
      go_wp2_with fail
      go_ret2
      exact Hres.out
theorem rect0_smallM {M : Mx} (hR : Rect 0 M) : smallM M = true := by
  unfold smallM
  refine List.all_eq_true.2 fun r hr => ?_
  rw [List.eq_nil_of_length_eq_zero (hR r hr)]; rfl
theorem rect0_nd {M : Mx} (hR : Rect 0 M) : ∀ r ∈ M, r.length ≤ 1000000 ∧ ∀ z ∈ r, nd z ≤ LIM := fun r hr => by
  rw [List.eq_nil_of_length_eq_zero (hR r hr)]
  exact ⟨by simp, fun z hz => by cases hz⟩
theorem check0 {M : Mx} (hR : Rect 0 M) (hn : M.length ≤ 3) : checkM M = 0 := by
  unfold checkM
  rw [if_neg (by omega)]
  refine chk_all _ M fun j hj => ?_
  have h1 := hR _ (List.getElem_mem hj)
  have h2 : M[j] = [] := List.eq_nil_of_length_eq_zero h1
  have h3 : (M.getD 0 []).length = 0 := by rw [getD_get (by omega)]; exact hR _ (List.getElem_mem _)
  rw [h3, h2]
  rfl
set_option maxRecDepth 100000 in
set_option maxHeartbeats 2000000 in
theorem Form0_any {w : World} {v : Value} {M : Mx} (hM : MatR w v M) (hR : Rect 0 M) (hn : M.length ≤ 3) (hL : Laid w) :
    Calls Tryz.prog 18 #[v] w fun e w' => ∃ u, e = .returned (.tuple #[u, .int .i64 0]) ∧ MatO w.heap.size w' u M ∧ Ext w w' := by
  have hch := Lib.hid (tableCheck_any hM)
  rw [check0 hR hn] at hch
  have hdg := Lib.hid (fun W (hW : Ext w W) => diagonal0_any (hM.ext hW) hR (by omega) (hL.ext hW))
  have hsm := Lib.hid (fun W va (hW : Ext w W) (hK : GridR W va M) => ssmall_any hK (by omega) (fun r hr => (rect0_nd hR r hr).1) (fun r hr => (rect0_nd hR r hr).2) (hL.ext hW))
  have Hok := Lib.hid (rect0_smallM hR)
  obtain ⟨sa, gb, go, cap, vs, rfl, _, _, _, _⟩ := hM
  clear hR hL hn
  go_enter Tryz.func18, Tryz.ntmps18
  go_wp2_with fail
  refine hch.out.mono ?_
  rintro e w1 ⟨rfl, hE1⟩
  go_wp2_with fail
  refine (hdg.out _ hE1).mono ?_
  rintro e w2 ⟨p, va, rfl, hcp, hG, hE2⟩
  have hX2 := hE1.trans hE2
  have hs2 := Lib.hid (hsm.out w2 va hX2 hG)
  obtain ⟨sg, gg, og, cg, vg, rfl, _⟩ := hG
  clear hch hdg hsm hE1 hE2
  go_wp2_with fail
  refine hs2.out.mono ?_
  rintro e w3 ⟨hp, hE3⟩
  rw [if_pos Hok.out] at hp
  obtain ⟨u, rfl, hu⟩ := hp
  have Hres := Lib.hid (hu.mono hX2.size)
  have hX3 := hX2.trans hE3
  clear hu hs2 hE3
  go_wp2_with fail
  go_ret2
  exact ⟨u, rfl, Hres.out, hX3⟩
theorem fin_small {M : Mx} {n c rank : Nat} {s : Dg} (hn : n ≤ 3) (hf : FinD n c (eM M) rank s) (hb : ∀ i k, (eM M i k).natAbs ≤ 128) : smallM s.a = true := by
  have hD : FacIs M (diagL rank s.a) := ⟨n, c, rank, s, hn, hf, rfl⟩
  have hs := fac_small hD hb
  obtain ⟨hd, hp, hz⟩ := hf.dia hn
  unfold smallM
  refine List.all_eq_true.2 fun r hr => List.all_eq_true.2 fun z hz' => ?_
  obtain ⟨i, hi, rfl⟩ := List.getElem_of_mem hr
  obtain ⟨k, hk, rfl⟩ := List.getElem_of_mem hz'
  have he : (s.a[i])[k] = eM s.a i k := by unfold eM; rw [getD_get hi, getD_get hk]
  rw [he, hd.el]
  have hzb : ∀ z : Int, 0 ≤ z → z ≤ 1000000000 → (!grt z) = true := fun z h1 h2 => by
    unfold grt
    simp only [Bool.not_eq_true', decide_eq_false_iff_not]
    omega
  split
  · rcases Nat.lt_or_ge i rank with h | h
    · have h1 := hs (eM s.a i i) (List.mem_map.2 ⟨i, List.mem_range.2 h, rfl⟩)
      exact hzb _ (by omega) h1.2
    · rw [hz i h]; rfl
  · rfl
def FormIs (M F : Mx) : Prop := F.length = M.length ∧ Rect (ncols M) F ∧ ∃ rank s, FinD M.length (ncols M) (eM M) rank s ∧ F = s.a
set_option maxRecDepth 100000 in
set_option maxHeartbeats 2000000 in
theorem Form08_any {w : World} {v : Value} {M : Mx} (hM : MatR w v M) (h : SmF M) (hL : Laid w) :
    Calls Tryz.prog 18 #[v] w fun e w' => ∃ u, e = .returned (.tuple #[u, .int .i64 0]) ∧ (∃ F, MatO w.heap.size w' u F ∧ FormIs M F) ∧ Ext w w' := by
  obtain ⟨f, rank, fin, hr, hf, hB⟩ := h.run
  have hch := Lib.hid (tableCheck_any hM)
  rw [h.check] at hch
  have hent : ∀ r ∈ M, ∀ z ∈ r, -1000000000 ≤ z ∧ z ≤ 1000000000 := fun r hr z hz => by have := h.mem r hr z hz; omega
  have hdg := Lib.hid (fun W (hW : Ext w W) => diagonal_any (hM.ext hW) h.rect h.n0 h.c0 (by have := h.n3; omega) (by have := h.c3; omega) hent hr ed_lim (by unfold ED; omega) (hL.ext hW))
  have Hok := Lib.hid (fin_small h.n3 hf (fun i k => by have := h.ent i k; omega))
  have hl : fin.a.length = M.length := hf.inv.sh.la
  have hrc : Rect (ncols M) fin.a := hf.inv.sh.ra
  have hsm := Lib.hid (fun W va (hW : Ext w W) (hK : GridR W va fin.a) => ssmall_any hK (by rw [hl]; have := h.n3; omega) (fun r hr => by rw [hrc r hr]; have := h.c3; omega) (fun r hr z hz => by have h1 := nd_lt2 (hB r hr z hz); have h2 := ed_lim; omega) (hL.ext hW))
  have HF := Lib.hid (show FormIs M fin.a from ⟨hl, hrc, rank, fin, hf, rfl⟩)
  obtain ⟨sa, gb, go, cap, vs, rfl, _, _, _, _⟩ := hM
  clear hL hr hf hB hent hl hrc h
  go_enter Tryz.func18, Tryz.ntmps18
  go_wp2_with fail
  refine hch.out.mono ?_
  rintro e w1 ⟨rfl, hE1⟩
  go_wp2_with fail
  refine (hdg.out _ hE1).mono ?_
  rintro e w2 ⟨⟨p, ga, ca, gl, cl, gr, cr⟩, aa, al, ar, rfl, hW, hE2⟩
  have hX2 := hE1.trans hE2
  have hcA := hW.c0
  simp only at hcA
  have hG := hW.a.gridR
  rw [hW.la] at hG
  have hs2 := Lib.hid (hsm.out w2 _ hX2 hG)
  clear hch hdg hsm hE1 hE2 hW hG
  go_wp2_with fail
  refine hs2.out.mono ?_
  rintro e w3 ⟨hp, hE3⟩
  rw [if_pos Hok.out] at hp
  obtain ⟨u, rfl, hu⟩ := hp
  have Hres := Lib.hid (hu.mono hX2.size)
  have hX3 := hX2.trans hE3
  clear hu hs2 hE3
  go_wp2_with fail
  go_ret2
  exact ⟨u, rfl, ⟨_, Hres.out, HF.out⟩, hX3⟩
end Go.Proofs.YtokjolmpdfmnbaaGreatDoor
namespace Go.Proofs.YtokjolmpdfmnbaaGreatDoor
open Go.RowKit Go.Sort
end Go.Proofs.YtokjolmpdfmnbaaGreatDoor
namespace Go.Proofs.YtokjolmpdfmnbaaGreatDoor
open Go.RowKit Go.Sort
end Go.Proofs.YtokjolmpdfmnbaaGreatDoor
