/- Part 20 of the proof of the claim: contracts of the functions that it reaches, and plain laws; no condition. -/
import Derived.Test.YtkjnjmihfonilaaGreatDoorV17
namespace Go.Proofs.YtkjnjmihfonilaaGreatDoor
open Hnf (V Span Ech Red)
def sc (d : Int) (v : V) : V := fun j => d * v j
theorem sc_span {M : List V} {v : V} (d : Int) (h : Span M v) : Span M (sc d v) := span_of_eq (Span.zero.sub (-d) h) fun j => by simp [sc, Hnf.sub, Int.neg_mul]
def CB (B : Nat) : Nat → Nat
  | 0 => 24
  | k + 1 => B * CB B k
theorem det2_B {x y : V} {B : Nat} (hx : ∀ j, (x j).natAbs ≤ B) (hy : ∀ j, (y j).natAbs ≤ B) (p q : Nat) : (det2 x y p q).natAbs ≤ 2 * (B * B) := by
  have h1 := mul_abs (hx p) (hy q)
  have h2 := mul_abs (hx q) (hy p)
  unfold det2; omega
theorem det3_B {x y z : V} {B : Nat} (hx : ∀ j, (x j).natAbs ≤ B) (hy : ∀ j, (y j).natAbs ≤ B) (hz : ∀ j, (z j).natAbs ≤ B) (p q s : Nat) : (det3 x y z p q s).natAbs ≤ 6 * (B * (B * B)) := by
  have h1 := mul_abs (hx p) (det2_B hy hz q s)
  have h2 := mul_abs (hx q) (det2_B hy hz p s)
  have h3 := mul_abs (hx s) (det2_B hy hz p q)
  rw [Nat.mul_left_comm] at h1 h2 h3
  unfold det3; omega
theorem det4_B {x y z t : V} {B : Nat} (hx : ∀ j, (x j).natAbs ≤ B) (hy : ∀ j, (y j).natAbs ≤ B) (hz : ∀ j, (z j).natAbs ≤ B) (ht : ∀ j, (t j).natAbs ≤ B) (p q s u : Nat) : (det4 x y z t p q s u).natAbs ≤ 24 * (B * (B * (B * B))) := by
  have h1 := mul_abs (hx p) (det3_B hy hz ht q s u)
  have h2 := mul_abs (hx q) (det3_B hy hz ht p s u)
  have h3 := mul_abs (hx s) (det3_B hy hz ht p q u)
  have h4 := mul_abs (hx u) (det3_B hy hz ht p q s)
  rw [Nat.mul_left_comm] at h1 h2 h3 h4
  unfold det4; omega
theorem CB1 (B : Nat) : CB B 1 = 24 * B := by simp [CB]; omega
theorem CB2 (B : Nat) : CB B 2 = 24 * (B * B) := by simp only [CB]; grind
theorem CB3 (B : Nat) : CB B 3 = 24 * (B * (B * B)) := by simp only [CB]; grind
theorem CB4 (B : Nat) : CB B 4 = 24 * (B * (B * (B * B))) := by simp only [CB]; grind
theorem one_in {L : List V} {x : V} (hx : x ∈ L) : 1 ≤ L.length := by
  match L with
  | [] => simp at hx
  | _ :: _ => simp
theorem two_in {L : List V} {x y : V} (hx : x ∈ L) (hy : y ∈ L) (h : x ≠ y) : 2 ≤ L.length := by
  match L with
  | [] => simp at hx
  | [a] => simp at hx hy; exact absurd (hx.trans hy.symm) h
  | _ :: _ :: _ => simp
theorem three_in {L : List V} {x y z : V} (hx : x ∈ L) (hy : y ∈ L) (hz : z ∈ L) (h : x ≠ y) (h2 : x ≠ z) (h3 : y ≠ z) : 3 ≤ L.length := by
  match L with
  | [] => simp at hx
  | [a] => simp at hx hy; exact absurd (hx.trans hy.symm) h
  | [a, b] => simp only [List.mem_cons, List.not_mem_nil, or_false] at hx hy hz; grind
  | _ :: _ :: _ :: _ => simp
theorem four_in {L : List V} {x y z t : V} (hx : x ∈ L) (hy : y ∈ L) (hz : z ∈ L) (ht : t ∈ L) (h : x ≠ y) (h2 : x ≠ z) (h3 : y ≠ z) (h4 : x ≠ t) (h5 : y ≠ t) (h6 : z ≠ t) : 4 ≤ L.length := by
  match L with
  | [] => simp at hx
  | [a] => simp at hx hy; exact absurd (hx.trans hy.symm) h
  | [a, b] => simp only [List.mem_cons, List.not_mem_nil, or_false] at hx hy hz ht; grind
  | [a, b, c] => simp only [List.mem_cons, List.not_mem_nil, or_false] at hx hy hz ht; grind
  | _ :: _ :: _ :: _ :: _ => simp
theorem dB1 {M : List V} {p B : Nat} {f : V} (hM : ∀ r ∈ M, ∀ j, (r j).natAbs ≤ B) (hf : Span M f) (h : f p ≠ 0) : 1 ≤ M.length ∧ ∃ d w, Duals M [p] 1 (CB B 1) d w := by
  obtain ⟨x, hx, hne⟩ := lin_row (f := fun v => v p) rfl (fun v q u => rfl) hf h
  refine ⟨one_in hx, x p, fun _ => x, hne, fun k _ => .mem hx, fun k hk s hs => ?_, fun k _ j => by rw [CB1]; have := hM x hx j; omega⟩
  obtain rfl : k = 0 := by omega
  obtain rfl : s = 0 := by omega
  rw [if_pos rfl]; rfl
theorem dB2 {M : List V} {p q B : Nat} {f g : V} (hM : ∀ r ∈ M, ∀ j, (r j).natAbs ≤ B) (hf : Span M f) (hg : Span M g) (h : det2 f g p q ≠ 0) : 2 ≤ M.length ∧ ∃ d w, Duals M [p, q] 2 (CB B 2) d w := by
  obtain ⟨x, hx, h⟩ := lin_row (f := fun v => det2 v g p q) (by simp [det2]) (fun v k u => by simp only [det2, Hnf.sub]; grind) hf h
  obtain ⟨y, hy, h⟩ := lin_row (f := fun v => det2 x v p q) (by simp [det2]) (fun v k u => by simp only [det2, Hnf.sub]; grind) hg h
  have bx := hM x hx
  have bY := hM y hy
  have hne : x ≠ y := fun e => h (by subst e; simp only [det2]; grind)
  refine ⟨two_in hx hy hne, det2 x y p q, fun k => if k = 0 then fun j => det2 x y j q else fun j => det2 x y p j, h, fun k hk => ?_, fun k hk s hs => ?_, fun k hk j => ?_⟩
  · rcases lt2 hk with rfl | rfl
    · exact span_of_eq ((Span.zero.step (-(y q)) hx).step (x q) hy) fun j => by simp [det2, Hnf.sub]; grind
    · exact span_of_eq ((Span.zero.step (y p) hx).step (-(x p)) hy) fun j => by simp [det2, Hnf.sub]; grind
  · rcases lt2 hk with rfl | rfl <;> rcases lt2 hs with rfl | rfl <;> simp [det2] <;> grind
  · rw [CB2]
    rcases lt2 hk with rfl | rfl
    · have := det2_B bx bY j q; simp; omega
    · have := det2_B bx bY p j; simp; omega
theorem dB3 {M : List V} {p q s B : Nat} {f g e : V} (hM : ∀ r ∈ M, ∀ j, (r j).natAbs ≤ B) (hf : Span M f) (hg : Span M g) (he : Span M e) (h : det3 f g e p q s ≠ 0) : 3 ≤ M.length ∧ ∃ d w, Duals M [p, q, s] 3 (CB B 3) d w := by
  obtain ⟨x, hx, h⟩ := lin_row (f := fun v => det3 v g e p q s) (by simp [det3]) (fun v k u => by simp only [det3, Hnf.sub]; grind) hf h
  obtain ⟨y, hy, h⟩ := lin_row (f := fun v => det3 x v e p q s) (by simp [det3, det2]) (fun v k u => by simp only [det3, det2, Hnf.sub]; grind) hg h
  obtain ⟨z, hz, h⟩ := lin_row (f := fun v => det3 x y v p q s) (by simp [det3, det2]) (fun v k u => by simp only [det3, det2, Hnf.sub]; grind) he h
  have bx := hM x hx
  have bY := hM y hy
  have bz := hM z hz
  have n1 : x ≠ y := fun e => h (by subst e; simp only [det3, det2]; grind)
  have n2 : x ≠ z := fun e => h (by subst e; simp only [det3, det2]; grind)
  have n3 : y ≠ z := fun e => h (by subst e; simp only [det3, det2]; grind)
  refine ⟨three_in hx hy hz n1 n2 n3, det3 x y z p q s, fun k => if k = 0 then fun j => det3 x y z j q s else if k = 1 then fun j => det3 x y z p j s else fun j => det3 x y z p q j, h, fun k hk => ?_, fun k hk t ht => ?_, fun k hk j => ?_⟩
  · rcases lt3 hk with rfl | rfl | rfl
    · exact span_of_eq (((Span.zero.step (-(det2 y z q s)) hx).step (det2 x z q s) hy).step (-(det2 x y q s)) hz) fun j => by simp [det3, det2, Hnf.sub]; grind
    · exact span_of_eq (((Span.zero.step (det2 y z p s) hx).step (-(det2 x z p s)) hy).step (det2 x y p s) hz) fun j => by simp [det3, det2, Hnf.sub]; grind
    · exact span_of_eq (((Span.zero.step (-(det2 y z p q)) hx).step (det2 x z p q) hy).step (-(det2 x y p q)) hz) fun j => by simp [det3, det2, Hnf.sub]; grind
  · rcases lt3 hk with rfl | rfl | rfl <;> rcases lt3 ht with rfl | rfl | rfl <;> simp [det3, det2] <;> grind
  · rw [CB3]
    rcases lt3 hk with rfl | rfl | rfl
    · have := det3_B bx bY bz j q s; simp; omega
    · have := det3_B bx bY bz p j s; simp; omega
    · have := det3_B bx bY bz p q j; simp; omega
theorem dB4 {M : List V} {p q s t B : Nat} {f g e c : V} (hM : ∀ r ∈ M, ∀ j, (r j).natAbs ≤ B) (hf : Span M f) (hg : Span M g) (he : Span M e) (hc : Span M c) (h : det4 f g e c p q s t ≠ 0) : 4 ≤ M.length ∧ ∃ d w, Duals M [p, q, s, t] 4 (CB B 4) d w := by
  obtain ⟨x, hx, h⟩ := lin_row (f := fun v => det4 v g e c p q s t) (by simp [det4]) (fun v k u => by simp only [det4, Hnf.sub]; grind) hf h
  obtain ⟨y, hy, h⟩ := lin_row (f := fun v => det4 x v e c p q s t) (by simp [det4, det3]) (fun v k u => by simp only [det4, det3, Hnf.sub]; grind) hg h
  obtain ⟨z, hz, h⟩ := lin_row (f := fun v => det4 x y v c p q s t) (by simp [det4, det3, det2]) (fun v k u => by simp only [det4, det3, det2, Hnf.sub]; grind) he h
  obtain ⟨o, ho, h⟩ := lin_row (f := fun v => det4 x y z v p q s t) (by simp [det4, det3, det2]) (fun v k u => by simp only [det4, det3, det2, Hnf.sub]; grind) hc h
  have bx := hM x hx
  have bY := hM y hy
  have bz := hM z hz
  have bo := hM o ho
  have n1 : x ≠ y := fun e => h (by subst e; simp only [det4, det3, det2]; grind)
  have n2 : x ≠ z := fun e => h (by subst e; simp only [det4, det3, det2]; grind)
  have n3 : y ≠ z := fun e => h (by subst e; simp only [det4, det3, det2]; grind)
  have n4 : x ≠ o := fun e => h (by subst e; simp only [det4, det3, det2]; grind)
  have n5 : y ≠ o := fun e => h (by subst e; simp only [det4, det3, det2]; grind)
  have n6 : z ≠ o := fun e => h (by subst e; simp only [det4, det3, det2]; grind)
  refine ⟨four_in hx hy hz ho n1 n2 n3 n4 n5 n6, det4 x y z o p q s t, fun k => if k = 0 then fun j => det4 x y z o j q s t else if k = 1 then fun j => det4 x y z o p j s t else if k = 2 then fun j => det4 x y z o p q j t else fun j => det4 x y z o p q s j, h, fun k hk => ?_, fun k hk i hi => ?_, fun k hk j => ?_⟩
  · rcases lt4 hk with rfl | rfl | rfl | rfl
    · exact span_of_eq ((((Span.zero.step (-(det3 y z o q s t)) hx).step (det3 x z o q s t) hy).step (-(det3 x y o q s t)) hz).step (det3 x y z q s t) ho) fun j => by simp [det4, det3, det2, Hnf.sub]; grind
    · exact span_of_eq ((((Span.zero.step (det3 y z o p s t) hx).step (-(det3 x z o p s t)) hy).step (det3 x y o p s t) hz).step (-(det3 x y z p s t)) ho) fun j => by simp [det4, det3, det2, Hnf.sub]; grind
    · exact span_of_eq ((((Span.zero.step (-(det3 y z o p q t)) hx).step (det3 x z o p q t) hy).step (-(det3 x y o p q t)) hz).step (det3 x y z p q t) ho) fun j => by simp [det4, det3, det2, Hnf.sub]; grind
    · exact span_of_eq ((((Span.zero.step (det3 y z o p q s) hx).step (-(det3 x z o p q s)) hy).step (det3 x y o p q s) hz).step (-(det3 x y z p q s)) ho) fun j => by simp [det4, det3, det2, Hnf.sub]; grind
  · rcases lt4 hk with rfl | rfl | rfl | rfl <;> rcases lt4 hi with rfl | rfl | rfl | rfl <;> simp [det4, det3, det2] <;> grind
  · rw [CB4]
    rcases lt4 hk with rfl | rfl | rfl | rfl
    · have := det4_B bx bY bz bo j q s t; simp; omega
    · have := det4_B bx bY bz bo p j s t; simp; omega
    · have := det4_B bx bY bz bo p q j t; simp; omega
    · have := det4_B bx bY bz bo p q s j; simp; omega
theorem sc_ne {D a : Int} (hD : D ≠ 0) (h : 0 < a) : D * a ≠ 0 := Int.mul_ne_zero hD (by omega)
theorem duals_of {n B : Nat} {ps : List Nat} {F : Mx} (hn : n ≤ 4) (hF : IsH n ps F) {L : List V} (hL : ∀ r ∈ L, ∀ j, (r j).natAbs ≤ B) {D : Int} (hD : D ≠ 0) (hS : ∀ v ∈ latM F, Span L (sc D v)) : F.length ≤ 4 ∧ F.length ≤ L.length ∧ ∃ d w, Duals L ps F.length (CB B F.length) d w := by
  have hlen := hF.len
  match F, ps, hF, hS, hlen with
  | [], [], hF, h1, _ => exact ⟨by simp, by simp, 1, fun _ _ => 0, by decide, fun k h => absurd h (by simp), fun k h => absurd h (by simp), fun k h => absurd h (by simp)⟩
  | [f], [p], hF, h1, _ =>
    exact ⟨by simp, dB1 hL (h1 (vr f) (by simp [latM])) (sc_ne hD (hF.pos 0 (by simp) : 0 < vr f p))⟩
  | [f, g], [p, q], hF, h1, _ =>
    refine ⟨by simp, dB2 hL (h1 (vr f) (by simp [latM])) (h1 (vr g) (by simp [latM])) ?_⟩
    have a0 : 0 < vr f p := hF.pos 0 (by simp)
    have a1 : 0 < vr g q := hF.pos 1 (by simp)
    have z1 : vr g p = 0 := hF.left 1 (by simp) p (hF.inc 0 1 (by omega) (by simp))
    unfold det2 sc; rw [z1]
    have := Int.mul_ne_zero (sc_ne hD a0) (sc_ne hD a1); simpa using this
  | [f, g, e], [p, q, s], hF, h1, _ =>
    refine ⟨by simp, dB3 hL (h1 (vr f) (by simp [latM])) (h1 (vr g) (by simp [latM])) (h1 (vr e) (by simp [latM])) ?_⟩
    have a0 : 0 < vr f p := hF.pos 0 (by simp)
    have a1 : 0 < vr g q := hF.pos 1 (by simp)
    have a2 : 0 < vr e s := hF.pos 2 (by simp)
    have z1 : vr g p = 0 := hF.left 1 (by simp) p (hF.inc 0 1 (by omega) (by simp))
    have z2 : vr e p = 0 := hF.left 2 (by simp) p (hF.inc 0 2 (by omega) (by simp))
    have z3 : vr e q = 0 := hF.left 2 (by simp) q (hF.inc 1 2 (by omega) (by simp))
    simp only [det3, det2, sc, z1, z2, z3]
    have := Int.mul_ne_zero (sc_ne hD a0) (Int.mul_ne_zero (sc_ne hD a1) (sc_ne hD a2)); simpa using this
  | [f, g, e, c], [p, q, s, t], hF, h1, _ =>
    refine ⟨by simp, dB4 hL (h1 (vr f) (by simp [latM])) (h1 (vr g) (by simp [latM])) (h1 (vr e) (by simp [latM])) (h1 (vr c) (by simp [latM])) ?_⟩
    have a0 : 0 < vr f p := hF.pos 0 (by simp)
    have a1 : 0 < vr g q := hF.pos 1 (by simp)
    have a2 : 0 < vr e s := hF.pos 2 (by simp)
    have a3 : 0 < vr c t := hF.pos 3 (by simp)
    have z1 : vr g p = 0 := hF.left 1 (by simp) p (hF.inc 0 1 (by omega) (by simp))
    have z2 : vr e p = 0 := hF.left 2 (by simp) p (hF.inc 0 2 (by omega) (by simp))
    have z3 : vr e q = 0 := hF.left 2 (by simp) q (hF.inc 1 2 (by omega) (by simp))
    have z4 : vr c p = 0 := hF.left 3 (by simp) p (hF.inc 0 3 (by omega) (by simp))
    have z5 : vr c q = 0 := hF.left 3 (by simp) q (hF.inc 1 3 (by omega) (by simp))
    have z6 : vr c s = 0 := hF.left 3 (by simp) s (hF.inc 2 3 (by omega) (by simp))
    simp only [det4, det3, det2, sc, z1, z2, z3, z4, z5, z6]
    have := Int.mul_ne_zero (sc_ne hD a0) (Int.mul_ne_zero (sc_ne hD a1) (Int.mul_ne_zero (sc_ne hD a2) (sc_ne hD a3))); simpa using this
  | _ :: _ :: _ :: _ :: _ :: F', p :: q :: s :: t :: u :: ps', hF, h1, _ =>
    exfalso
    have i1 := hF.inc 0 1 (by omega) (by simp)
    have i2 := hF.inc 1 2 (by omega) (by simp)
    have i3 := hF.inc 2 3 (by omega) (by simp)
    have i4 := hF.inc 3 4 (by omega) (by simp)
    have i5 := hF.lt 4 (by simp)
    omega
  | [], _ :: _, hF, h1, hl => simp at hl
  | [_], [], hF, h1, hl => simp at hl
  | [_], _ :: _ :: _, hF, h1, hl => simp at hl
  | [_, _], [], hF, h1, hl => simp at hl
  | [_, _], [_], hF, h1, hl => simp at hl
  | [_, _], _ :: _ :: _ :: _, hF, h1, hl => simp at hl
  | [_, _, _], [], hF, h1, hl => simp at hl
  | [_, _, _], [_], hF, h1, hl => simp at hl
  | [_, _, _], [_, _], hF, h1, hl => simp at hl
  | [_, _, _], _ :: _ :: _ :: _ :: _, hF, h1, hl => simp at hl
  | _ :: _ :: _ :: _ :: _, [], hF, h1, hl => simp at hl
  | _ :: _ :: _ :: _ :: _, [_], hF, h1, hl => simp at hl
  | _ :: _ :: _ :: _ :: _, [_, _], hF, h1, hl => simp at hl
  | _ :: _ :: _ :: _ :: _, [_, _, _], hF, h1, hl => simp at hl
  | _ :: _ :: _ :: _ :: _ :: _, [_, _, _, _], hF, h1, hl => simp at hl
  | [_, _, _, _], _ :: _ :: _ :: _ :: _ :: _, hF, h1, hl => simp at hl
end Go.Proofs.YtkjnjmihfonilaaGreatDoor
namespace Go.Proofs.YtkjnjmihfonilaaGreatDoor
open Hnf (V Span Ech Red)
def dotV (n : Nat) (x y : V) : Int := sumZ (fun i => x i * y i) n
theorem dot_comm (n : Nat) (x y : V) : dotV n x y = dotV n y x := sumZ_congr fun _ _ => Int.mul_comm _ _
theorem dot_sub (n : Nat) (x z y : V) (q : Int) : dotV n (Hnf.sub x q z) y = dotV n x y - q * dotV n z y := by
  unfold dotV
  rw [← sumZ_mul, ← sumZ_sub]
  exact sumZ_congr fun i _ => by simp only [Hnf.sub]; grind
theorem dot_subr (n : Nat) (x y z : V) (q : Int) : dotV n x (Hnf.sub y q z) = dotV n x y - q * dotV n x z := by
  rw [dot_comm, dot_sub, dot_comm n y, dot_comm n z]
theorem dot_zero (n : Nat) (y : V) : dotV n (fun _ => 0) y = 0 := sumZ_zero fun i _ => by simp
theorem dot_sc (n : Nat) (d : Int) (x y : V) : dotV n (sc d x) y = d * dotV n x y := by
  unfold dotV sc
  rw [← sumZ_mul]
  exact sumZ_congr fun i _ => by grind
theorem span_dot {n : Nat} {L : List V} {y : V} (h : ∀ v ∈ L, dotV n v y = 0) {v : V} (hv : Span L v) : dotV n v y = 0 :=
  lin_zero (f := fun v => dotV n v y) (dot_zero n y) (fun v q u => dot_sub n v u y q) h hv
theorem dot_combr {n : Nat} {x : V} {a : Nat → Int} {w : Nat → V} : ∀ {r : Nat}, dotV n x (comb a w r) = sumZ (fun k => a k * dotV n x (w k)) r
  | 0 => by rw [dot_comm]; exact dot_zero n x
  | r + 1 => by
    show dotV n x (Hnf.sub (comb a w r) (-(a r)) (w r)) = sumZ (fun k => a k * dotV n x (w k)) r + a r * dotV n x (w r)
    rw [dot_subr, dot_combr (r := r)]
    grind
def KerL (n : Nat) (L : List V) (K : Mx) : Prop := (∃ qs, IsH n qs K) ∧ ∀ y : V, Span (latM K) y ↔ (∀ v ∈ L, dotV n v y = 0) ∧ ∀ i, n ≤ i → y i = 0
theorem KerL.unique {n : Nat} {L L' : List V} {K K' : Mx} (h : KerL n L K) (h' : KerL n L' K') (hl : ∀ y, (∀ v ∈ L, dotV n v y = 0) ↔ ∀ v ∈ L', dotV n v y = 0) : K = K' := by
  obtain ⟨⟨qs, hK⟩, h1⟩ := h
  obtain ⟨⟨qs', hK'⟩, h2⟩ := h'
  exact (IsH.unique hK hK' (fun v hv => (h2 v).2 (by have := (h1 v).1 (.mem hv); exact ⟨(hl v).1 this.1, this.2⟩)) (fun v hv => (h1 v).2 (by have := (h2 v).1 (.mem hv); exact ⟨(hl v).2 this.1, this.2⟩))).1
theorem KerL.dot {n : Nat} {L : List V} {K : Mx} (h : KerL n L K) {v y : V} (hv : v ∈ L) (hy : Span (latM K) y) : dotV n v y = 0 := ((h.2 y).1 hy).1 v hv
theorem KerL.three {n : Nat} {L : List V} {A S A' : Mx} (hL : ∀ v ∈ L, ∀ i, n ≤ i → v i = 0) (hA : KerL n L A) (hS : KerL n (latM A) S) (hA' : KerL n (latM S) A') : A' = A := by
  refine hA'.unique hA fun y => ⟨fun h v hv => ?_, fun h v hv => ?_⟩
  · have hvS : Span (latM S) v := (hS.2 v).2 ⟨fun a ha => by rw [dot_comm]; exact hA.dot hv (.mem ha), hL v hv⟩
    exact span_dot h hvS
  · have h2 := (hS.2 v).1 (.mem hv)
    by_cases hn : ∀ i, n ≤ i → y i = 0
    · have := span_dot h2.1 ((hA.2 y).2 ⟨h, hn⟩)
      rw [dot_comm]; exact this
    · have hcut : ∀ x : V, dotV n x y = dotV n x (fun i => if i < n then y i else 0) := fun x => sumZ_congr fun i hi => by show x i * y i = x i * (if i < n then y i else 0); rw [if_pos hi]
      have := span_dot h2.1 ((hA.2 (fun i => if i < n then y i else 0)).2 ⟨fun u hu => by rw [← hcut]; exact h u hu, fun i hi => if_neg (by omega)⟩)
      rw [hcut, dot_comm]; exact this
def uE (p : Nat) : V := fun i => if i = p then 1 else 0
theorem dot_uE {n p : Nat} (x : V) (h : p < n) : dotV n x (uE p) = x p := by
  unfold dotV
  rw [sumZ_one (k := p) h (fun i _ hi => by simp [uE, hi])]
  simp [uE]
structure KSet (n : Nat) (L : List V) (ps : List Nat) (F : Mx) (C : Nat) (d : Int) (w : Nat → V) : Prop where
  hF : IsH n ps F
  up : ∀ v ∈ L, Span (latM F) v
  dn : ∀ v ∈ latM F, Span L v
  du : Duals L ps F.length C d w
  sm : d.natAbs ≤ C
  fr : ∀ v ∈ L, ∀ i, n ≤ i → v i = 0
theorem KSet.far {n C : Nat} {L : List V} {ps : List Nat} {F : Mx} {d : Int} {w : Nat → V} (h : KSet n L ps F C d w) {v : V} (hv : Span L v) : ∀ i, n ≤ i → v i = 0 := fun i hi => by
  induction hv with
  | zero => rfl
  | step q _ hr ih => simp only [Hnf.sub, ih, h.fr _ hr i hi]; simp
theorem KSet.expand {n C : Nat} {L : List V} {ps : List Nat} {F : Mx} {d : Int} {w : Nat → V} (h : KSet n L ps F C d w) {v : V} (hv : Span L v) (j : Nat) : d * v j = comb (fun k => v (ps.getD k 0)) w F.length j := by
  have hz := pivots_zero h.hF (v := Hnf.sub (Hnf.sub (fun _ => 0) (-d) v) 1 (comb (fun k => v (ps.getD k 0)) w F.length)) (((Span.zero.sub (-d) hv).sub 1 (comb_span h.du.span)).trans h.up) (by
    intro s hs
    simp only [Hnf.sub]
    rw [comb_at (s := s) (d := d) hs (fun k hk => h.du.at' k hk s hs)]
    grind) j
  simp only [Hnf.sub] at hz
  grind
def uV (d : Int) (w : Nat → V) (ps : List Nat) (r j : Nat) : V := Hnf.sub (sc d (uE j)) 1 (comb (fun k => w k j) (fun k => uE (ps.getD k 0)) r)
section
variable {n C : Nat} {L : List V} {ps : List Nat} {F : Mx} {d : Int} {w : Nat → V}
theorem KSet.u_piv (h : KSet n L ps F C d w) (j : Nat) {s : Nat} (hs : s < F.length) : uV d w ps F.length j (ps.getD s 0) = (if ps.getD s 0 = j then d else 0) - w s j := by
  unfold uV
  simp only [Hnf.sub, sc]
  rw [comb_at (s := s) (d := 1) hs (fun k hk => by
    unfold uE
    by_cases e : k = s
    · subst e; simp
    · rw [if_neg e, if_neg (fun e2 => e (h.hF.inj hs hk e2).symm)])]
  unfold uE; split <;> simp
theorem KSet.u_non (_ : KSet n L ps F C d w) (j : Nat) {i : Nat} (hi : ∀ s, s < F.length → ps.getD s 0 ≠ i) : uV d w ps F.length j i = if i = j then d else 0 := by
  unfold uV
  simp only [Hnf.sub, sc]
  rw [comb_out (fun k hk => by unfold uE; rw [if_neg (fun e => hi k hk e.symm)])]
  unfold uE; split <;> simp
theorem KSet.u_abs (h : KSet n L ps F C d w) (j i : Nat) : (uV d w ps F.length j i).natAbs ≤ C := by
  by_cases hp : ∃ s, s < F.length ∧ ps.getD s 0 = i
  · obtain ⟨s, hs, rfl⟩ := hp
    rw [h.u_piv j hs]
    by_cases e : ps.getD s 0 = j
    · rw [if_pos e]
      have := h.du.at' s hs s hs
      rw [if_pos rfl, e] at this
      rw [this]; simp
    · rw [if_neg e]
      have := h.du.abs s hs j
      omega
  · rw [h.u_non j (fun s hs e => hp ⟨s, hs, e⟩)]
    split
    · exact h.sm
    · simp
theorem KSet.u_far (h : KSet n L ps F C d w) {j i : Nat} (hj : j < n) (hi : n ≤ i) : uV d w ps F.length j i = 0 := by
  rw [h.u_non j (fun s hs e => by have := h.hF.lt s hs; omega), if_neg (by omega)]
theorem KSet.u_dual (h : KSet n L ps F C d w) {j s : Nat} (hj : j < n) (hs : s < F.length) : dotV n (w s) (uV d w ps F.length j) = 0 := by
  unfold uV
  rw [dot_subr, dot_comm, dot_sc, dot_comm, dot_uE _ hj, dot_combr, sumZ_one (k := s) hs (fun k hk hne => by
    rw [dot_uE _ (h.hF.lt k hk), h.du.at' s hs k hk, if_neg (fun e => hne e.symm)]; simp), dot_uE _ (h.hF.lt s hs), h.du.at' s hs s hs, if_pos rfl]
  grind
theorem KSet.of_dual (h : KSet n L ps F C d w) {y : V} (hy : ∀ s, s < F.length → dotV n (w s) y = 0) : ∀ v ∈ L, dotV n v y = 0 := fun v hv => by
  have e : dotV n (sc d v) y = 0 := by
    have : sc d v = comb (fun k => v (ps.getD k 0)) w F.length := funext fun j => h.expand (.mem hv) j
    rw [this, dot_comm, dot_combr]
    exact sumZ_zero fun k hk => by rw [dot_comm, hy k hk]; simp
  rw [dot_sc] at e
  exact (Int.mul_eq_zero.1 e).resolve_left h.du.ne
theorem KSet.u_ker (h : KSet n L ps F C d w) {j : Nat} (hj : j < n) : ∀ v ∈ L, dotV n v (uV d w ps F.length j) = 0 := h.of_dual fun _ hs => h.u_dual hj hs
theorem KSet.ker_zero (h : KSet n L ps F C d w) {y : V} (hy : ∀ v ∈ L, dotV n v y = 0) (hz : ∀ i, (∀ s, s < F.length → ps.getD s 0 ≠ i) → y i = 0) : ∀ i, y i = 0 := fun i => by
  by_cases hp : ∃ s, s < F.length ∧ ps.getD s 0 = i
  · obtain ⟨s, hs, rfl⟩ := hp
    have h1 := span_dot hy (h.du.span s hs)
    unfold dotV at h1
    rw [sumZ_one (k := ps.getD s 0) (h.hF.lt s hs) (fun k hk hne => by
      by_cases hk2 : ∃ t, t < F.length ∧ ps.getD t 0 = k
      · obtain ⟨t, ht, rfl⟩ := hk2
        rw [h.du.at' s hs t ht, if_neg (fun e => hne (by rw [e]))]; simp
      · rw [hz k (fun t ht e => hk2 ⟨t, ht, e⟩)]; simp), h.du.at' s hs s hs, if_pos rfl] at h1
    exact (Int.mul_eq_zero.1 h1).resolve_left h.du.ne
  · exact hz i (fun s hs e => hp ⟨s, hs, e⟩)
theorem KSet.u_zero (h : KSet n L ps F C d w) {s : Nat} (hs : s < F.length) (i : Nat) : uV d w ps F.length (ps.getD s 0) i = 0 := by
  by_cases hp : ∃ t, t < F.length ∧ ps.getD t 0 = i
  · obtain ⟨t, ht, rfl⟩ := hp
    rw [h.u_piv _ ht, h.du.at' t ht s hs]
    by_cases e : t = s
    · subst e; simp
    · rw [if_neg e, if_neg (fun e2 => e (h.hF.inj ht hs e2))]; rfl
  · rw [h.u_non _ (fun t ht e => hp ⟨t, ht, e⟩), if_neg (fun e => hp ⟨s, hs, e.symm⟩)]
theorem KSet.ker_comb (h : KSet n L ps F C d w) {x : V} (hx : ∀ v ∈ L, dotV n v x = 0) (hf : ∀ i, n ≤ i → x i = 0) (i : Nat) : d * x i = comb x (uV d w ps F.length) n i := by
  have hz := h.ker_zero (y := Hnf.sub (sc d x) 1 (comb x (uV d w ps F.length) n)) (fun v hv => by
    rw [dot_subr, dot_comm, dot_sc, dot_comm, hx v hv, dot_combr, sumZ_zero (fun k hk => by rw [h.u_ker hk v hv]; simp)]; simp) (fun i hi => by
    simp only [Hnf.sub, sc]
    rcases Nat.lt_or_ge i n with h1 | h1
    · rw [comb_at (s := i) (d := d) h1 (fun k hk => by rw [h.u_non k hi]; by_cases e : i = k <;> simp [e, eq_comm])]
      grind
    · rw [comb_out (fun k hk => h.u_far hk h1), hf i h1]; simp) i
  simp only [Hnf.sub, sc] at hz
  omega
def Jl (n : Nat) (ps : List Nat) : List Nat := (List.range n).filter fun j => !ps.contains j
end
theorem jl_one : ∀ (n : Fin 5) (p : Fin 4), p.val < n.val → (Jl n.val [p.val]).length + 1 ≤ n.val := by decide +kernel
theorem jl_two : ∀ (n : Fin 5) (p q : Fin 4), p.val < q.val → q.val < n.val → (Jl n.val [p.val, q.val]).length + 2 ≤ n.val := by decide +kernel
theorem jl_three : ∀ (n : Fin 5) (p q s : Fin 4), p.val < q.val → q.val < s.val → s.val < n.val → (Jl n.val [p.val, q.val, s.val]).length + 3 ≤ n.val := by decide +kernel
theorem jl_four : ∀ (n : Fin 5) (p q s t : Fin 4), p.val < q.val → q.val < s.val → s.val < t.val → t.val < n.val → (Jl n.val [p.val, q.val, s.val, t.val]).length + 4 ≤ n.val := by decide +kernel
theorem jl_len {n : Nat} {ps : List Nat} {F : Mx} (hn : n ≤ 4) (hF : IsH n ps F) : (Jl n ps).length + F.length ≤ n := by
  have hlen := hF.len
  have hlt := fun i hi => hF.lt i hi
  have hinc := fun i k h1 h2 => hF.inc i k h1 h2
  rw [← hlen] at hlt hinc ⊢
  clear hF hlen
  match ps, hlt, hinc with
  | [], _, _ => exact Nat.le_trans (List.length_filter_le _ _) (by simp)
  | [p], hlt, _ =>
    have h0 := hlt 0 (by simp)
    simp at h0
    exact jl_one ⟨n, by omega⟩ ⟨p, by omega⟩ h0
  | [p, q], hlt, hinc =>
    have h0 := hlt 1 (by simp)
    have h1 := hinc 0 1 (by omega) (by simp)
    simp at h0 h1
    exact jl_two ⟨n, by omega⟩ ⟨p, by omega⟩ ⟨q, by omega⟩ h1 h0
  | [p, q, s], hlt, hinc =>
    have h0 := hlt 2 (by simp)
    have h1 := hinc 0 1 (by omega) (by simp)
    have h2 := hinc 1 2 (by omega) (by simp)
    simp at h0 h1 h2
    exact jl_three ⟨n, by omega⟩ ⟨p, by omega⟩ ⟨q, by omega⟩ ⟨s, by omega⟩ h1 h2 h0
  | [p, q, s, t], hlt, hinc =>
    have h0 := hlt 3 (by simp)
    have h1 := hinc 0 1 (by omega) (by simp)
    have h2 := hinc 1 2 (by omega) (by simp)
    have h3 := hinc 2 3 (by omega) (by simp)
    simp at h0 h1 h2 h3
    exact jl_four ⟨n, by omega⟩ ⟨p, by omega⟩ ⟨q, by omega⟩ ⟨s, by omega⟩ ⟨t, by omega⟩ h1 h2 h3 h0
  | p :: q :: s :: t :: u :: l, hlt, hinc =>
    exfalso
    have h0 := hlt 4 (by simp)
    have h1 := hinc 0 1 (by omega) (by simp)
    have h2 := hinc 1 2 (by omega) (by simp)
    have h3 := hinc 2 3 (by omega) (by simp)
    have h4 := hinc 3 4 (by omega) (by simp)
    simp at h0 h1 h2 h3 h4
    omega
theorem cb_num : ∀ (r s : Fin 5), r.val + s.val ≤ 4 → s.val * CB (CB 9 r.val) s.val ≤ 1000000000 := by decide +kernel
theorem KSet.ker_b {n : Nat} {L : List V} {ps : List Nat} {F K : Mx} {d : Int} {w : Nat → V} (h : KSet n L ps F (CB 9 F.length) d w) (hn : n ≤ 4) (hK : KerL n L K) : ∀ i, i < K.length → ∀ j, (eM K i j).natAbs ≤ 1000000000 := by
  obtain ⟨⟨qs, hQ⟩, hk⟩ := hK
  obtain ⟨U, hU⟩ : ∃ U : List V, U = (Jl n ps).map (uV d w ps F.length) := ⟨_, rfl⟩
  have hUa : ∀ v ∈ U, ∀ j, (v j).natAbs ≤ CB 9 F.length := fun v hv j => by
    rw [hU] at hv
    obtain ⟨k, _, rfl⟩ := List.mem_map.1 hv
    exact h.u_abs k j
  have hUs : ∀ k, k < n → Span U (uV d w ps F.length k) := fun k hk2 => by
    by_cases hp : ∃ s, s < F.length ∧ ps.getD s 0 = k
    · obtain ⟨s, hs, rfl⟩ := hp
      exact span_of_eq .zero fun j => h.u_zero hs j
    · refine .mem ?_
      rw [hU]
      refine List.mem_map.2 ⟨k, ?_, rfl⟩
      unfold Jl
      refine List.mem_filter.2 ⟨List.mem_range.2 hk2, ?_⟩
      simp only [Bool.not_eq_true', List.contains_eq_mem, decide_eq_false_iff_not]
      intro hm
      obtain ⟨s, hs, e⟩ := List.getElem_of_mem hm
      exact hp ⟨s, by rw [← h.hF.len]; exact hs, by rw [getD_get hs]; exact e⟩
  have hS : ∀ v ∈ latM K, Span U (sc d v) := fun v hv => by
    obtain ⟨h1, h2⟩ := (hk v).1 (.mem hv)
    exact span_of_eq (comb_span (a := v) (r := n) hUs) fun j => h.ker_comb h1 h2 j
  obtain ⟨k1, k2, d2, w2, hD⟩ := duals_of hn hQ hUa h.du.ne hS
  have hUK : ∀ v ∈ U, Span (latM K) v := fun v hv => by
    rw [hU] at hv
    obtain ⟨k, hk3, rfl⟩ := List.mem_map.1 hv
    have hkn : k < n := List.mem_range.1 (List.mem_filter.1 hk3).1
    exact (hk _).2 ⟨h.u_ker hkn, fun i hi => h.u_far hkn hi⟩
  have hl : U.length + F.length ≤ n := by rw [hU, List.length_map]; exact jl_len hn h.hF
  intro i hi j
  have hb := duals_small hQ (hD.mono hUK) i hi j
  have := cb_num ⟨F.length, by omega⟩ ⟨K.length, by omega⟩ (by show F.length + K.length ≤ 4; omega)
  exact Nat.le_trans hb this
theorem KSet.sat_b {n : Nat} {L : List V} {ps : List Nat} {F K S : Mx} {C : Nat} {d : Int} {w : Nat → V} (h : KSet n L ps F C d w) (hn : n ≤ 4) (hK : KerL n L K) (hS : KerL n (latM K) S) (hL : ∀ v ∈ L, ∀ j, (v j).natAbs ≤ 9) : ∀ i, i < S.length → ∀ j, (eM S i j).natAbs ≤ 1000000000 := by
  obtain ⟨⟨qs, hQ⟩, hk⟩ := hS
  have hLS : ∀ v ∈ L, Span (latM S) v := fun v hv => (hk v).2 ⟨fun a ha => by rw [dot_comm]; exact hK.dot hv (.mem ha), h.fr v hv⟩
  have hM : ∀ v ∈ latM S, Span L (sc d v) := fun x hx => by
    obtain ⟨h1, h2⟩ := (hk x).1 (.mem hx)
    have hxu : ∀ j, j < n → dotV n x (uV d w ps F.length j) = 0 := fun j hj => by
      rw [dot_comm]
      exact span_dot h1 ((hK.2 _).2 ⟨h.u_ker hj, fun i hi => h.u_far hj hi⟩)
    refine span_of_eq (comb_span (a := fun k => x (ps.getD k 0)) (r := F.length) h.du.span) fun j => ?_
    rcases Nat.lt_or_ge j n with hj | hj
    · have := hxu j hj
      unfold uV at this
      rw [dot_subr, dot_comm, dot_sc, dot_comm, dot_uE _ hj, dot_combr] at this
      show d * x j = _
      have e : sumZ (fun k => w k j * dotV n x (uE (ps.getD k 0))) F.length = comb (fun k => x (ps.getD k 0)) w F.length j := by
        have hg : ∀ r, r ≤ F.length → sumZ (fun k => w k j * dotV n x (uE (ps.getD k 0))) r = comb (fun k => x (ps.getD k 0)) w r j := by
          intro r
          induction r with
          | zero => intro _; rfl
          | succ r ih =>
            intro hr
            show sumZ (fun k => w k j * dotV n x (uE (ps.getD k 0))) r + w r j * dotV n x (uE (ps.getD r 0)) = Hnf.sub (comb (fun k => x (ps.getD k 0)) w r) (-(x (ps.getD r 0))) (w r) j
            rw [ih (by omega), dot_uE _ (h.hF.lt r (by omega))]
            simp only [Hnf.sub]; grind
        exact hg _ (Nat.le_refl _)
      rw [e] at this
      omega
    · show d * x j = _
      rw [h2 j hj, comb_out (fun k hk => h.far (h.du.span k hk) j hj)]; simp
  obtain ⟨k1, -, d2, w2, hD⟩ := duals_of hn hQ hL h.du.ne hM
  intro i hi j
  have hb := duals_small hQ (hD.mono hLS) i hi j
  have := cb_num ⟨0, by omega⟩ ⟨S.length, by omega⟩ (by show 0 + S.length ≤ 4; omega)
  have hc : ∀ (s : Fin 5), s.val * CB 9 s.val ≤ 1000000000 := by decide +kernel
  exact Nat.le_trans hb (hc ⟨S.length, by omega⟩)
theorem kset_of {n : Nat} {M F : Mx} (hn : n ≤ 4) (hM : Rect n M) (hm : ∀ r ∈ M, ∀ z ∈ r, z.natAbs ≤ 9) (hF : HnfOf n M F) : ∃ ps d w, KSet n (latM M) ps F (CB 9 F.length) d w := by
  obtain ⟨⟨ps, hH⟩, h1, h2⟩ := hF
  have hL : ∀ v ∈ latM M, ∀ j, (v j).natAbs ≤ 9 := fun v hv j => by
    obtain ⟨l, hl, rfl⟩ := List.mem_map.1 hv
    show (l.getD j 0).natAbs ≤ 9
    rw [List.getD_eq_getElem?_getD]
    rcases Nat.lt_or_ge j l.length with hj | hj
    · rw [List.getElem?_eq_getElem hj]; exact hm l hl _ (List.getElem_mem hj)
    · rw [List.getElem?_eq_none hj]; simp
  have hfr : ∀ v ∈ latM M, ∀ i, n ≤ i → v i = 0 := fun v hv i hi => by
    obtain ⟨l, hl, rfl⟩ := List.mem_map.1 hv
    exact vr_far (by rw [hM l hl]; exact hi)
  obtain ⟨k1, k2, d, w, hD⟩ := duals_of hn hH hL (D := 1) (by decide) (fun v hv => sc_span 1 (h1 v hv))
  rcases Nat.eq_zero_or_pos F.length with h0 | h0
  · refine ⟨ps, 1, w, hH, h2, h1, ⟨by decide, fun k hk => by omega, fun k hk => by omega, fun k hk => by omega⟩, ?_, hfr⟩
    rw [h0]; decide
  · refine ⟨ps, d, w, hH, h2, h1, hD, ?_, hfr⟩
    have := hD.abs 0 h0 (ps.getD 0 0)
    rwa [hD.at' 0 h0 0 h0, if_pos rfl] at this
theorem ent_le {F : Mx} {C : Nat} (h : ∀ i, i < F.length → ∀ j, (eM F i j).natAbs ≤ C) : ∀ r ∈ F, ∀ z ∈ r, z.natAbs ≤ C := fun r hr z hz => by
  obtain ⟨i, hi, rfl⟩ := List.getElem_of_mem hr
  obtain ⟨j, hj, rfl⟩ := List.getElem_of_mem hz
  have := h i hi j
  unfold eM at this
  rwa [getD_get hi, getD_get hj] at this
end Go.Proofs.YtkjnjmihfonilaaGreatDoor
namespace Go.Proofs.YtkjnjmihfonilaaGreatDoor
open Hnf (V Span Ech Red)
def trM (n : Nat) (M : Mx) : Mx := (List.range n).map fun c => M.map fun r => r.getD c 0
@[simp] theorem trM_length (n : Nat) (M : Mx) : (trM n M).length = n := by simp [trM]
theorem trM_rect (n : Nat) (M : Mx) : Rect M.length (trM n M) := fun r hr => by
  obtain ⟨c, _, rfl⟩ := List.mem_map.1 hr
  simp
theorem trM_get {n : Nat} (M : Mx) {c : Nat} (h : c < n) : (trM n M)[c]'(by simpa using h) = M.map fun r => r.getD c 0 := by simp [trM]
theorem trM_en {n : Nat} (M : Mx) {c j : Nat} (h : c < n) (hj : j < M.length) : eM (trM n M) c j = vr M[j] c := by
  have e : (trM n M).getD c [] = M.map fun r => r.getD c 0 := by rw [getD_get (by simpa using h)]; exact trM_get M h
  unfold eM
  rw [e, getD_get (by simpa using hj)]
  simp [vr]
theorem cmb_tr {n : Nat} (M : Mx) (y : V) {j : Nat} (hj : j < M.length) : cmb (trM n M) y j = dotV n (vr M[j]) y := by
  unfold cmb dotV
  rw [trM_length]
  exact sumZ_congr fun i hi => by rw [trM_en M hi hj]; exact Int.mul_comm _ _
theorem ker_of_wide {n : Nat} {M H : Mx} (hH : HnfOf (M.length + n) (wideM (trM n M)) H) : KerL n (latM M) (krn M.length H) := by
  have h := krn_form (c := M.length) (M := trM n M) (trM_rect n M) (by rw [trM_length]; exact hH)
  obtain ⟨qs, h1, h2⟩ := h
  rw [trM_length] at h1 h2
  refine ⟨⟨qs, h1⟩, fun y => (h2 y).trans ⟨fun h => ⟨fun v hv => ?_, h.2⟩, fun h => ⟨fun j hj => ?_, h.2⟩⟩⟩
  · obtain ⟨r, hr, rfl⟩ := List.mem_map.1 hv
    obtain ⟨j, hj, rfl⟩ := List.getElem_of_mem hr
    rw [← cmb_tr M y hj]; exact h.1 j hj
  · rw [cmb_tr M y hj]
    exact h.1 _ (List.mem_map.2 ⟨M[j], List.getElem_mem hj, rfl⟩)
theorem KerL.of_form {n : Nat} {M F K : Mx} (hF : HnfOf n M F) (hK : KerL n (latM F) K) : KerL n (latM M) K :=
  ⟨hK.1, fun y => (hK.2 y).trans ⟨fun h => ⟨fun v hv => span_dot h.1 (hF.2.2 v hv), h.2⟩, fun h => ⟨fun v hv => span_dot h.1 (hF.2.1 v hv), h.2⟩⟩⟩
theorem rect_far {n : Nat} {M : Mx} (h : Rect n M) : ∀ v ∈ latM M, ∀ i, n ≤ i → v i = 0 := fun v hv i hi => by
  obtain ⟨l, hl, rfl⟩ := List.mem_map.1 hv
  exact vr_far (by rw [h l hl]; exact hi)
theorem two_kernels {n : Nat} {M F K S : Mx} (hn : n ≤ 4) (hM : Rect n M) (hm : ∀ r ∈ M, ∀ z ∈ r, z.natAbs ≤ 9) (hF : HnfOf n M F) (hK : KerL n (latM F) K) (hS : KerL n (latM K) S) :
    (∀ r ∈ K, ∀ z ∈ r, z.natAbs ≤ 1000000000) ∧ (∀ r ∈ S, ∀ z ∈ r, z.natAbs ≤ 1000000000) ∧ (∀ K', KerL n (latM S) K' → K' = K) ∧ (∀ A S', KerL n (latM S) A → KerL n (latM A) S' → S' = S) := by
  obtain ⟨ps, d, w, h⟩ := kset_of hn hM hm hF
  have hK2 := hK.of_form hF
  have hL : ∀ v ∈ latM M, ∀ j, (v j).natAbs ≤ 9 := fun v hv j => by
    obtain ⟨l, hl, rfl⟩ := List.mem_map.1 hv
    show (l.getD j 0).natAbs ≤ 9
    rw [List.getD_eq_getElem?_getD]
    rcases Nat.lt_or_ge j l.length with hj | hj
    · rw [List.getElem?_eq_getElem hj]; exact hm l hl _ (List.getElem_mem hj)
    · rw [List.getElem?_eq_none hj]; simp
  have h3 : ∀ K', KerL n (latM S) K' → K' = K := fun K' h' => KerL.three (rect_far hM) hK2 hS h'
  refine ⟨ent_le (h.ker_b hn hK2), ent_le (h.sat_b hn hK2 hS hL), h3, fun A S' hA hS' => ?_⟩
  rw [h3 A hA] at hS'
  exact hS'.unique hS fun _ => Iff.rfl
end Go.Proofs.YtkjnjmihfonilaaGreatDoor
