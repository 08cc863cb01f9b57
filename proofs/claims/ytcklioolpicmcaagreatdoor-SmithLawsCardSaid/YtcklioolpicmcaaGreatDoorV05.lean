/- Part 5 of the proof of the claim: contracts of the functions that it reaches, and plain laws; no condition. -/
import Derived.Test.YtcklioolpicmcaaGreatDoorV04
import Derived.Lib.ItoaNum
import Derived.Test.YtcklioolpicmcaaGreatDoorProg
import Derived.WalkKit
import Derived.WalkLawsBesides
import Derived.WalkSpells
import Derived.Deep.QuietTactic
import Derived.BigQuiet
import Derived.Below
import Derived.Lib.Hide
import Derived.Deep.LoopGhost
import Derived.Lib.Strings
import Derived.Lib.IndexBytes
/- Plain: two rows of small numbers: what Solve and Kernel return is small. -/
namespace Go.Proofs.YtcklioolpicmcaaGreatDoor
open Hnf
theorem wps_at {ps : List Nat} {F : Mx} (hl : ps.length = F.length) {g : Nat × V} (h : g ∈ wps ps F) : ∃ i, i < F.length ∧ g.1 = ps.getD i 0 ∧ g.2 = vr (F.getD i []) := by
  unfold wps at h
  obtain ⟨x, hx, rfl⟩ := List.mem_map.1 h
  obtain ⟨i, hi, rfl⟩ := List.getElem_of_mem hx
  simp only [List.length_zip] at hi
  refine ⟨i, by omega, ?_, ?_⟩
  · rw [getD_get (by omega)]; simp
  · rw [getD_get (by omega)]; simp
theorem IsH.lead {m p : Nat} {qs : List Nat} {K : Mx} (hI : IsH m qs K) {v : V} (hs : Span (latM K) v) (hv : v p ≠ 0) (h0 : ∀ i, i < p → v i = 0) : ∃ i, i < K.length ∧ qs.getD i 0 = p ∧ eM K i p ∣ v p := by
  rw [← wps_rows hI.len] at hs
  obtain ⟨g, hg, hp, hd⟩ := hI.ech.lead hs hv h0
  obtain ⟨i, hi, h1, h2⟩ := wps_at hI.len hg
  exact ⟨i, hi, by rw [← h1, hp], by rw [h2] at hd; exact hd⟩
theorem IsH.inj {m i k : Nat} {qs : List Nat} {K : Mx} (hI : IsH m qs K) (hi : i < K.length) (hk : k < K.length) (h : qs.getD i 0 = qs.getD k 0) : i = k := by
  rcases Nat.lt_trichotomy i k with h1 | h1 | h1
  · have := hI.inc i k h1 hk; omega
  · exact h1
  · have := hI.inc k i h1 hi; omega
theorem pb9 {a b : Int} {s t : Nat} (ha : a.natAbs ≤ s) (hb : b.natAbs ≤ t) : (a * b).natAbs ≤ s * t := by
  rw [Int.natAbs_mul]; exact Nat.mul_le_mul ha hb
theorem bd1 {x D y : Int} (h : x * D = y) (hD : D ≠ 0) : x.natAbs ≤ y.natAbs := by
  rw [← h, Int.natAbs_mul]
  exact Nat.le_mul_of_pos_right _ (by omega)
theorem dvd_le {a b : Int} {t : Nat} (h : a ∣ b) (hp : 0 < a) (hb : b ≠ 0) (ht : b.natAbs ≤ t) : a ≤ t := by
  have h1 := Int.natAbs_dvd_natAbs.2 h
  have h2 := Nat.le_of_dvd (by omega) h1
  omega
theorem cmb_two (r u : List Int) (y : V) (j : Nat) : cmb [r, u] y j = y 0 * vr r j + y 1 * vr u j := by
  simp [cmb, sumZ, eM, vr]
def two (a b : Int) : V := fun k => if k = 0 then a else if k = 1 then b else 0
/-- What the kernel of two rows is. -/
def KerOf (n : Nat) (r u : List Int) (qs : List Nat) (K : Mx) : Prop := IsH 2 qs K ∧ ∀ y : V, Span (latM K) y ↔ (∀ j, j < n → y 0 * vr r j + y 1 * vr u j = 0) ∧ ∀ i, 2 ≤ i → y i = 0
theorem ker_two {n : Nat} {r u : List Int} {qs : List Nat} {K : Mx} (h : KerOf n r u qs K) {a b : Int} (hz : ∀ j, j < n → a * vr r j + b * vr u j = 0) : Span (latM K) (two a b) :=
  (h.2 _).2 ⟨fun j hj => by simpa [two] using hz j hj, fun i hi => by unfold two; rw [if_neg (by omega), if_neg (by omega)]⟩
theorem ker_lead0 {n : Nat} {r u : List Int} {qs : List Nat} {K : Mx} (h : KerOf n r u qs K) {a b : Int} (hz : ∀ j, j < n → a * vr r j + b * vr u j = 0) (ha : a ≠ 0) : ∃ i, i < K.length ∧ qs.getD i 0 = 0 ∧ eM K i 0 ∣ a := by
  obtain ⟨i, hi, h1, h2⟩ := h.1.lead (p := 0) (ker_two h hz) (by simpa [two] using ha) (fun i hi => by omega)
  exact ⟨i, hi, h1, by simpa [two] using h2⟩
theorem ker_lead1 {n : Nat} {r u : List Int} {qs : List Nat} {K : Mx} (h : KerOf n r u qs K) {b : Int} (hz : ∀ j, j < n → b * vr u j = 0) (hb : b ≠ 0) : ∃ i, i < K.length ∧ qs.getD i 0 = 1 ∧ eM K i 1 ∣ b := by
  obtain ⟨i, hi, h1, h2⟩ := h.1.lead (p := 1) (ker_two h (a := 0) (b := b) (fun j hj => by rw [Int.zero_mul, Int.zero_add]; exact hz j hj)) (by simpa [two] using hb) (fun i hi => by
    have : i = 0 := by omega
    subst this; simp [two])
  exact ⟨i, hi, h1, by simpa [two] using h2⟩
theorem two_small {n : Nat} {r u : List Int} {qs : List Nat} {K : Mx} (h : KerOf n r u qs K) (hr : ∀ j, (vr r j).natAbs ≤ 9) (hu : ∀ j, (vr u j).natAbs ≤ 9) {q : List Int} (hq : ∀ j, (vr q j).natAbs ≤ 9) {x0 x1 : Int}
    (hx : ∀ j, j < n → x0 * vr r j + x1 * vr u j = vr q j) (h0 : ∀ i, i < K.length → qs.getD i 0 = 0 → 0 ≤ x0 ∧ x0 < eM K i 0) (h1 : ∀ i, i < K.length → qs.getD i 0 = 1 → 0 ≤ x1 ∧ x1 < eM K i 1) : x0.natAbs ≤ 200 ∧ x1.natAbs ≤ 200 := by
  by_cases hD : ∃ i j, i < n ∧ j < n ∧ vr r i * vr u j - vr r j * vr u i ≠ 0
  · obtain ⟨i, j, hi, hj, hD⟩ := hD
    have e1 := hx i hi
    have e2 := hx j hj
    have k0 : x0 * (vr r i * vr u j - vr r j * vr u i) = vr q i * vr u j - vr q j * vr u i := by rw [← e1, ← e2]; grind
    have k1 : x1 * (vr r i * vr u j - vr r j * vr u i) = vr q j * vr r i - vr q i * vr r j := by rw [← e1, ← e2]; grind
    have b0 := bd1 k0 hD
    have b1 := bd1 k1 hD
    have m1 := pb9 (hq i) (hu j)
    have m2 := pb9 (hq j) (hu i)
    have m3 := pb9 (hq j) (hr i)
    have m4 := pb9 (hq i) (hr j)
    omega
  · have hD0 : ∀ i j, i < n → j < n → vr r i * vr u j - vr r j * vr u i = 0 := fun i j hi hj => Classical.byContradiction fun hc => hD ⟨i, j, hi, hj, hc⟩
    by_cases hu0 : ∃ j, j < n ∧ vr u j ≠ 0
    · obtain ⟨j, hj, huj⟩ := hu0
      obtain ⟨i, hi, hqi, hd⟩ := ker_lead0 h (a := vr u j) (b := -vr r j) (fun i hi => by have := hD0 i j hi hj; grind) huj
      have hp := h.1.pos i hi
      rw [hqi] at hp
      have hle := dvd_le hd hp huj (hu j)
      obtain ⟨a1, a2⟩ := h0 i hi hqi
      have b0 : x0.natAbs ≤ 9 := by omega
      have e1 : x1 * vr u j = vr q j - x0 * vr r j := by have := hx j hj; omega
      have b1 := bd1 e1 huj
      have m1 := pb9 b0 (hr j)
      have m2 := hq j
      omega
    · have hu1 : ∀ j, j < n → vr u j = 0 := fun j hj => Classical.byContradiction fun hc => hu0 ⟨j, hj, hc⟩
      obtain ⟨i, hi, hqi, hd⟩ := ker_lead1 h (b := 1) (fun j hj => by rw [hu1 j hj]; rfl) (by decide)
      have hp := h.1.pos i hi
      rw [hqi] at hp
      have hle := dvd_le hd hp (by decide) (t := 1) (by decide)
      obtain ⟨a1, a2⟩ := h1 i hi hqi
      by_cases hr0 : ∃ j, j < n ∧ vr r j ≠ 0
      · obtain ⟨j, hj, hrj⟩ := hr0
        have e0 : x0 * vr r j = vr q j := by have := hx j hj; rw [hu1 j hj] at this; simpa using this
        have b0 := bd1 e0 hrj
        have := hq j
        omega
      · have hr1 : ∀ j, j < n → vr r j = 0 := fun j hj => Classical.byContradiction fun hc => hr0 ⟨j, hj, hc⟩
        obtain ⟨i2, hi2, hqi2, hd2⟩ := ker_lead0 h (a := 1) (b := 0) (fun j hj => by rw [hr1 j hj]; simp) (by decide)
        have hp2 := h.1.pos i2 hi2
        rw [hqi2] at hp2
        have hle2 := dvd_le hd2 hp2 (by decide) (t := 1) (by decide)
        obtain ⟨a3, a4⟩ := h0 i2 hi2 hqi2
        omega
theorem ker_small {n : Nat} {r u : List Int} {qs : List Nat} {K : Mx} (h : KerOf n r u qs K) (hr : ∀ j, (vr r j).natAbs ≤ 9) (hu : ∀ j, (vr u j).natAbs ≤ 9) {i : Nat} (hi : i < K.length) : (eM K i 0).natAbs ≤ 81 ∧ (eM K i 1).natAbs ≤ 81 := by
  have hy := ((h.2 (vr (K.getD i []))).1 (.mem (List.mem_map.2 ⟨K.getD i [], by rw [getD_get hi]; exact List.getElem_mem hi, rfl⟩))).1
  have hy' : ∀ j, j < n → eM K i 0 * vr r j + eM K i 1 * vr u j = 0 := hy
  have hlt := h.1.lt i hi
  have hp := h.1.pos i hi
  have hq2 : qs.getD i 0 = 0 ∨ qs.getD i 0 = 1 := by omega
  by_cases hD : ∃ s j, s < n ∧ j < n ∧ vr r s * vr u j - vr r j * vr u s ≠ 0
  · obtain ⟨s, j, hs, hj, hD⟩ := hD
    have e1 := hy' s hs
    have e2 := hy' j hj
    have k0 : eM K i 0 * (vr r s * vr u j - vr r j * vr u s) = 0 := by
      have : eM K i 0 * (vr r s * vr u j - vr r j * vr u s) = (eM K i 0 * vr r s + eM K i 1 * vr u s) * vr u j - (eM K i 0 * vr r j + eM K i 1 * vr u j) * vr u s := by grind
      rw [this, e1, e2]; simp
    have k1 : eM K i 1 * (vr r s * vr u j - vr r j * vr u s) = 0 := by
      have : eM K i 1 * (vr r s * vr u j - vr r j * vr u s) = (eM K i 0 * vr r j + eM K i 1 * vr u j) * vr r s - (eM K i 0 * vr r s + eM K i 1 * vr u s) * vr r j := by grind
      rw [this, e1, e2]; simp
    have b0 := bd1 k0 hD
    have b1 := bd1 k1 hD
    rcases hq2 with e | e <;> rw [e] at hp <;> simp at b0 b1 <;> omega
  · have hD0 : ∀ s j, s < n → j < n → vr r s * vr u j - vr r j * vr u s = 0 := fun s j hs hj => Classical.byContradiction fun hc => hD ⟨s, j, hs, hj, hc⟩
    by_cases hu0 : ∃ j, j < n ∧ vr u j ≠ 0
    · obtain ⟨j, hj, huj⟩ := hu0
      obtain ⟨i0, hi0, hqi, hd⟩ := ker_lead0 h (a := vr u j) (b := -vr r j) (fun s hs => by have := hD0 s j hs hj; grind) huj
      rcases hq2 with e | e
      · have := h.1.inj hi hi0 (by rw [e, hqi])
        subst this
        rw [e] at hp
        have hle := dvd_le hd hp huj (hu j)
        have b0 : (eM K i 0).natAbs ≤ 9 := by omega
        have e1 : eM K i 1 * vr u j = -(eM K i 0 * vr r j) := by have := hy' j hj; omega
        have b1 := bd1 e1 huj
        have m1 := pb9 b0 (hr j)
        omega
      · rw [e] at hp
        have hl := h.1.left i hi 0 (by omega)
        have e1 : eM K i 1 * vr u j = 0 := by have := hy' j hj; rw [hl] at this; simpa using this
        have b1 := bd1 e1 huj
        simp at b1
        omega
    · have hu1 : ∀ j, j < n → vr u j = 0 := fun j hj => Classical.byContradiction fun hc => hu0 ⟨j, hj, hc⟩
      obtain ⟨i1, hi1, hqi1, hd1⟩ := ker_lead1 h (b := 1) (fun j hj => by rw [hu1 j hj]; rfl) (by decide)
      have hp1 := h.1.pos i1 hi1
      rw [hqi1] at hp1
      have hle1 := dvd_le hd1 hp1 (by decide) (t := 1) (by decide)
      by_cases hr0 : ∃ j, j < n ∧ vr r j ≠ 0
      · obtain ⟨j, hj, hrj⟩ := hr0
        have e0 : eM K i 0 * vr r j = 0 := by have := hy' j hj; rw [hu1 j hj] at this; simpa using this
        have b0 := bd1 e0 hrj
        rcases hq2 with e | e
        · rw [e] at hp; simp at b0; omega
        · have := h.1.inj hi hi1 (by rw [e, hqi1])
          subst this
          simp at b0; omega
      · have hr1 : ∀ j, j < n → vr r j = 0 := fun j hj => Classical.byContradiction fun hc => hr0 ⟨j, hj, hc⟩
        obtain ⟨i2, hi2, hqi2, hd2⟩ := ker_lead0 h (a := 1) (b := 0) (fun j hj => by rw [hr1 j hj]; simp) (by decide)
        have hp2 := h.1.pos i2 hi2
        rw [hqi2] at hp2
        have hle2 := dvd_le hd2 hp2 (by decide) (t := 1) (by decide)
        rcases hq2 with e | e
        · have := h.1.inj hi hi2 (by rw [e, hqi2])
          subst this
          have hlt2 : i < i1 := by
            rcases Nat.lt_trichotomy i i1 with h1 | h1 | h1
            · exact h1
            · subst h1; omega
            · have := h.1.inc i1 i h1 hi; omega
          have := h.1.red i i1 hlt2 hi1
          rw [hqi1] at this
          omega
        · have := h.1.inj hi hi1 (by rw [e, hqi1])
          subst this
          have hl := h.1.left i hi 0 (by omega)
          rw [hl]
          exact ⟨by decide, by omega⟩
/-- The kernel that Solve and Kernel find. -/
theorem ker_of {c : Nat} {r u : List Int} {H : Mx} (hM : Rect c [r, u]) (hH : HnfOf (c + 2) (wideM [r, u]) H) : ∃ qs, KerOf c r u qs (krn c H) := by
  obtain ⟨qs, h1, h2⟩ := krn_form (M := [r, u]) hM hH
  refine ⟨qs, h1, fun y => ?_⟩
  rw [h2 y]
  constructor
  · rintro ⟨a, b⟩
    exact ⟨fun j hj => by rw [← cmb_two]; exact a j hj, b⟩
  · rintro ⟨a, b⟩
    exact ⟨fun j hj => by rw [cmb_two]; exact a j hj, b⟩
theorem solX_two {c : Nat} {r u q : List Int} {H : Mx} (hM : Rect c [r, u]) (hH : HnfOf (c + 2) (wideM [r, u]) H) (hq : q.length = c) (hz : zeroL ((solL c H 2 q).take c)) (br : ∀ j, (vr r j).natAbs ≤ 9) (bu : ∀ j, (vr u j).natAbs ≤ 9) (bq : ∀ j, (vr q j).natAbs ≤ 9) :
    ∃ x0 x1, solX c H 2 q = [x0, x1] ∧ x0.natAbs ≤ 200 ∧ x1.natAbs ≤ 200 ∧ ∀ j, j < c → x0 * vr r j + x1 * vr u j = vr q j := by
  obtain ⟨qs, hK⟩ := ker_of hM hH
  have hl := solX_length (n := 2) (H := H) hq
  have hc := solX_cmb (M := [r, u]) hM hH hq hz
  have hcl : (negM ((solL c H 2 q).drop c)).length = 2 := by
    have : (solX c H 2 q).length = (negM ((solL c H 2 q).drop c)).length := by unfold solX; rw [redX_length]
    omega
  have hrg := fun i hi => redX_range hK.1 hcl i hi
  have hrg' : ∀ i, i < (krn c H).length → 0 ≤ (solX c H 2 q).getD (qs.getD i 0) 0 ∧ (solX c H 2 q).getD (qs.getD i 0) 0 < eM (krn c H) i (qs.getD i 0) := hrg
  match hh : solX c H 2 q, hl with
  | [x0, x1], _ =>
    have hc' : ∀ j, j < c → x0 * vr r j + x1 * vr u j = vr q j := fun j hj => by
      have := hc j hj
      rw [show solX c H ([r, u] : Mx).length q = [x0, x1] from hh, cmb_two] at this
      simpa [vr] using this
    have hs := two_small hK br bu bq hc' (fun i hi e => by have := hrg' i hi; rw [hh, e] at this; simpa using this) (fun i hi e => by have := hrg' i hi; rw [hh, e] at this; simpa using this)
    exact ⟨x0, x1, rfl, hs.1, hs.2, hc'⟩
end Go.Proofs.YtcklioolpicmcaaGreatDoor
/- Three small rows: the solution that is reduced modulo the kernel's form is small. Plain. -/
namespace Go.Proofs.YtcklioolpicmcaaGreatDoor
open Hnf
def T3 (m : Nat → Nat → Int) (y : Nat → Int) (j : Nat) : Int := y 0 * m 0 j + y 1 * m 1 j + y 2 * m 2 j
def v3 (a b c : Int) : Nat → Int := fun i => if i = 0 then a else if i = 1 then b else if i = 2 then c else 0
theorem v3_0 (a b c : Int) : v3 a b c 0 = a := rfl
theorem v3_1 (a b c : Int) : v3 a b c 1 = b := rfl
theorem v3_2 (a b c : Int) : v3 a b c 2 = c := rfl
theorem v3_ge (a b c : Int) {i : Nat} (h : 3 ≤ i) : v3 a b c i = 0 := by unfold v3; rw [if_neg (by omega), if_neg (by omega), if_neg (by omega)]
theorem pb3 {a b : Int} {s t : Int} (ha : -s ≤ a ∧ a ≤ s) (hb : -t ≤ b ∧ b ≤ t) : -(s * t) ≤ a * b ∧ a * b ≤ s * t := by
  have h1 : a.natAbs ≤ s.toNat := by omega
  have h2 : b.natAbs ≤ t.toNat := by omega
  have h3 := pb9 h1 h2
  have h4 : ((s.toNat * t.toNat : Nat) : Int) = s * t := by rw [Int.natCast_mul]; congr 1 <;> omega
  omega
theorem lin3 {z V p q r : Int} (h : z * V = p * q + r) (hV : V ≠ 0) (hp : -162 ≤ p ∧ p ≤ 162) (hq : -162 ≤ q ∧ q ≤ 162) (hr : -19440 ≤ r ∧ r ≤ 19440) : z.natAbs ≤ 1000000 := by
  have h1 := bd1 h hV
  have h2 := pb3 hp hq
  omega
theorem bd3 {m : Nat → Nat → Int} {N : Nat} {x l : Nat → Int} (hm : ∀ i j, -9 ≤ m i j ∧ m i j ≤ 9) (hN : N ≤ 3) (hz : ∀ i j, N ≤ i → m i j = 0)
    (hx : ∀ j, T3 m x j = T3 m l j) (hl : ∀ i, -40 ≤ l i ∧ l i ≤ 40) (hlz : ∀ i, N ≤ i → l i = 0) (hxz : ∀ i, N ≤ i → x i = 0)
    (HR : ∀ (y : Nat → Int) p, (∀ j, T3 m y j = 0) → (∀ i, N ≤ i → y i = 0) → y p ≠ 0 → (∀ i, i < p → y i = 0) → 0 ≤ x p ∧ x p < (y p).natAbs) :
    (x 0).natAbs ≤ 1000000 ∧ (x 1).natAbs ≤ 1000000 ∧ (x 2).natAbs ≤ 1000000 := by
  have hd : ∀ j, (x 0 - l 0) * m 0 j + (x 1 - l 1) * m 1 j + (x 2 - l 2) * m 2 j = 0 := fun j => by
    have := hx j; unfold T3 at this; grind
  have hb : ∀ j, -1080 ≤ T3 m x j ∧ T3 m x j ≤ 1080 := fun j => by
    rw [hx j]; unfold T3
    have h0 := pb3 (hl 0) (hm 0 j)
    have h1 := pb3 (hl 1) (hm 1 j)
    have h2 := pb3 (hl 2) (hm 2 j)
    omega
  have same : x 0 = l 0 → x 1 = l 1 → x 2 = l 2 → (x 0).natAbs ≤ 1000000 ∧ (x 1).natAbs ≤ 1000000 ∧ (x 2).natAbs ≤ 1000000 := fun e0 e1 e2 => by
    have h0 := hl 0; have h1 := hl 1; have h2 := hl 2
    omega
  by_cases hA : ∃ j1 j2 j3, m 0 j1 * (m 1 j2 * m 2 j3 - m 2 j2 * m 1 j3) + m 0 j2 * (m 1 j3 * m 2 j1 - m 2 j3 * m 1 j1) + m 0 j3 * (m 1 j1 * m 2 j2 - m 2 j1 * m 1 j2) ≠ 0
  · obtain ⟨j1, j2, j3, hD⟩ := hA
    have d1 := hd j1; have d2 := hd j2; have d3 := hd j3

    have key : ∀ p : Int, p * (m 0 j1 * (m 1 j2 * m 2 j3 - m 2 j2 * m 1 j3) + m 0 j2 * (m 1 j3 * m 2 j1 - m 2 j3 * m 1 j1) + m 0 j3 * (m 1 j1 * m 2 j2 - m 2 j1 * m 1 j2)) = 0 → p = 0 := fun p h => by
      rcases Int.mul_eq_zero.1 h with h | h
      · exact h
      · exact absurd h hD
    have e0 := key (x 0 - l 0) (by
      have : (x 0 - l 0) * (m 0 j1 * (m 1 j2 * m 2 j3 - m 2 j2 * m 1 j3) + m 0 j2 * (m 1 j3 * m 2 j1 - m 2 j3 * m 1 j1) + m 0 j3 * (m 1 j1 * m 2 j2 - m 2 j1 * m 1 j2)) = ((x 0 - l 0) * m 0 j1 + (x 1 - l 1) * m 1 j1 + (x 2 - l 2) * m 2 j1) * (m 1 j2 * m 2 j3 - m 2 j2 * m 1 j3) + ((x 0 - l 0) * m 0 j2 + (x 1 - l 1) * m 1 j2 + (x 2 - l 2) * m 2 j2) * (m 1 j3 * m 2 j1 - m 2 j3 * m 1 j1) + ((x 0 - l 0) * m 0 j3 + (x 1 - l 1) * m 1 j3 + (x 2 - l 2) * m 2 j3) * (m 1 j1 * m 2 j2 - m 2 j1 * m 1 j2) := by clear d1 d2 d3 hD key; grind
      rw [this, d1, d2, d3]; simp)
    have e1 := key (x 1 - l 1) (by
      have : (x 1 - l 1) * (m 0 j1 * (m 1 j2 * m 2 j3 - m 2 j2 * m 1 j3) + m 0 j2 * (m 1 j3 * m 2 j1 - m 2 j3 * m 1 j1) + m 0 j3 * (m 1 j1 * m 2 j2 - m 2 j1 * m 1 j2)) = ((x 0 - l 0) * m 0 j1 + (x 1 - l 1) * m 1 j1 + (x 2 - l 2) * m 2 j1) * (m 2 j2 * m 0 j3 - m 0 j2 * m 2 j3) + ((x 0 - l 0) * m 0 j2 + (x 1 - l 1) * m 1 j2 + (x 2 - l 2) * m 2 j2) * (m 2 j3 * m 0 j1 - m 0 j3 * m 2 j1) + ((x 0 - l 0) * m 0 j3 + (x 1 - l 1) * m 1 j3 + (x 2 - l 2) * m 2 j3) * (m 2 j1 * m 0 j2 - m 0 j1 * m 2 j2) := by clear d1 d2 d3 hD key; grind
      rw [this, d1, d2, d3]; simp)
    have e2 := key (x 2 - l 2) (by
      have : (x 2 - l 2) * (m 0 j1 * (m 1 j2 * m 2 j3 - m 2 j2 * m 1 j3) + m 0 j2 * (m 1 j3 * m 2 j1 - m 2 j3 * m 1 j1) + m 0 j3 * (m 1 j1 * m 2 j2 - m 2 j1 * m 1 j2)) = ((x 0 - l 0) * m 0 j1 + (x 1 - l 1) * m 1 j1 + (x 2 - l 2) * m 2 j1) * (m 0 j2 * m 1 j3 - m 1 j2 * m 0 j3) + ((x 0 - l 0) * m 0 j2 + (x 1 - l 1) * m 1 j2 + (x 2 - l 2) * m 2 j2) * (m 0 j3 * m 1 j1 - m 1 j3 * m 0 j1) + ((x 0 - l 0) * m 0 j3 + (x 1 - l 1) * m 1 j3 + (x 2 - l 2) * m 2 j3) * (m 0 j1 * m 1 j2 - m 1 j1 * m 0 j2) := by clear d1 d2 d3 hD key; grind
      rw [this, d1, d2, d3]; simp)
    exact same (by omega) (by omega) (by omega)
  have hA' : ∀ j1 j2 j3, m 0 j1 * (m 1 j2 * m 2 j3 - m 2 j2 * m 1 j3) + m 0 j2 * (m 1 j3 * m 2 j1 - m 2 j3 * m 1 j1) + m 0 j3 * (m 1 j1 * m 2 j2 - m 2 j1 * m 1 j2) = 0 := fun j1 j2 j3 => Classical.byContradiction fun h => hA ⟨j1, j2, j3, h⟩
  clear hA
  by_cases hB : ∃ j1 j2, m 1 j1 * m 2 j2 - m 2 j1 * m 1 j2 ≠ 0 ∨ m 2 j1 * m 0 j2 - m 0 j1 * m 2 j2 ≠ 0 ∨ m 0 j1 * m 1 j2 - m 1 j1 * m 0 j2 ≠ 0
  · obtain ⟨j1, j2, hv⟩ := hB
    obtain ⟨v0, e0⟩ : ∃ v0, v0 = m 1 j1 * m 2 j2 - m 2 j1 * m 1 j2 := ⟨_, rfl⟩
    obtain ⟨v1, e1⟩ : ∃ v1, v1 = m 2 j1 * m 0 j2 - m 0 j1 * m 2 j2 := ⟨_, rfl⟩
    obtain ⟨v2, e2⟩ : ∃ v2, v2 = m 0 j1 * m 1 j2 - m 1 j1 * m 0 j2 := ⟨_, rfl⟩
    rw [← e0, ← e1, ← e2] at hv
    have r0 : -162 ≤ v0 ∧ v0 ≤ 162 := by
      have h1 := pb3 (hm 1 j1) (hm 2 j2); have h2 := pb3 (hm 2 j1) (hm 1 j2); omega
    have r1 : -162 ≤ v1 ∧ v1 ≤ 162 := by
      have h1 := pb3 (hm 2 j1) (hm 0 j2); have h2 := pb3 (hm 0 j1) (hm 2 j2); omega
    have r2 : -162 ≤ v2 ∧ v2 ≤ 162 := by
      have h1 := pb3 (hm 0 j1) (hm 1 j2); have h2 := pb3 (hm 1 j1) (hm 0 j2); omega
    by_cases hN3 : N = 3
    · obtain ⟨al, ha⟩ : ∃ al, al = T3 m x j1 := ⟨_, rfl⟩
      obtain ⟨be, hbe⟩ : ∃ be, be = T3 m x j2 := ⟨_, rfl⟩
      have ba := hb j1
      have bb := hb j2
      rw [← ha] at ba
      rw [← hbe] at bb
      have i0 : x 1 * v2 - x 2 * v1 = m 0 j1 * be - m 0 j2 * al := by rw [e1, e2, ha, hbe]; unfold T3; grind
      have i1 : x 2 * v0 - x 0 * v2 = m 1 j1 * be - m 1 j2 * al := by rw [e0, e2, ha, hbe]; unfold T3; grind
      have i2 : x 0 * v1 - x 1 * v0 = m 2 j1 * be - m 2 j2 * al := by rw [e0, e1, ha, hbe]; unfold T3; grind
      have q0 : -19440 ≤ m 0 j1 * be - m 0 j2 * al ∧ m 0 j1 * be - m 0 j2 * al ≤ 19440 := by
        have h1 := pb3 (hm 0 j1) bb; have h2 := pb3 (hm 0 j2) ba; omega
      have q1 : -19440 ≤ m 1 j1 * be - m 1 j2 * al ∧ m 1 j1 * be - m 1 j2 * al ≤ 19440 := by
        have h1 := pb3 (hm 1 j1) bb; have h2 := pb3 (hm 1 j2) ba; omega
      have q2 : -19440 ≤ m 2 j1 * be - m 2 j2 * al ∧ m 2 j1 * be - m 2 j2 * al ≤ 19440 := by
        have h1 := pb3 (hm 2 j1) bb; have h2 := pb3 (hm 2 j2) ba; omega
      generalize m 0 j1 * be - m 0 j2 * al = s0 at *
      generalize m 1 j1 * be - m 1 j2 * al = s1 at *
      generalize m 2 j1 * be - m 2 j2 * al = s2 at *
      have hT : ∀ j, T3 m (v3 v0 v1 v2) j = 0 := fun j => by
        have := hA' j1 j2 j
        unfold T3
        rw [v3_0, v3_1, v3_2, e0, e1, e2]
        grind
      have hy3 : ∀ i, N ≤ i → v3 v0 v1 v2 i = 0 := fun i hi => v3_ge _ _ _ (by omega)
      clear hA' e0 e1 e2 ha hbe ba bb hd hb hx hm same
      by_cases h0 : v0 = 0
      · by_cases h1 : v1 = 0
        · have h2 : v2 ≠ 0 := by rcases hv with h | h | h; (exact absurd h0 h); (exact absurd h1 h); exact h
          have hr := HR _ 2 hT hy3 (by rw [v3_2]; exact h2) (fun i hi => by
            rcases (show i = 0 ∨ i = 1 by omega) with rfl | rfl
            · rw [v3_0]; exact h0
            · rw [v3_1]; exact h1)
          rw [v3_2] at hr
          exact ⟨lin3 (z := x 0) (V := v2) (p := x 2) (q := v0) (r := -s1) (by omega) h2 (by omega) r0 (by omega), lin3 (z := x 1) (V := v2) (p := x 2) (q := v1) (r := s0) (by omega) h2 (by omega) r1 (by omega), by omega⟩
        · have hr := HR _ 1 hT hy3 (by rw [v3_1]; exact h1) (fun i hi => by
            obtain rfl : i = 0 := by omega
            rw [v3_0]; exact h0)
          rw [v3_1] at hr
          exact ⟨lin3 (z := x 0) (V := v1) (p := x 1) (q := v0) (r := s2) (by omega) h1 (by omega) r0 (by omega), by omega, lin3 (z := x 2) (V := v1) (p := x 1) (q := v2) (r := -s0) (by omega) h1 (by omega) r2 (by omega)⟩
      · have hr := HR _ 0 hT hy3 (by rw [v3_0]; exact h0) (fun i hi => by omega)
        rw [v3_0] at hr
        exact ⟨by omega, lin3 (z := x 1) (V := v0) (p := x 0) (q := v1) (r := -s2) (by omega) h0 (by omega) r1 (by omega), lin3 (z := x 2) (V := v0) (p := x 0) (q := v2) (r := s1) (by omega) h0 (by omega) r2 (by omega)⟩
    · have hz1 := hz 2 j1 (by omega)
      have hz2 := hz 2 j2 (by omega)
      have h0 : v0 = 0 := by rw [e0, hz1, hz2]; simp
      have h1 : v1 = 0 := by rw [e1, hz1, hz2]; simp
      have h2 : v2 ≠ 0 := by rcases hv with h | h | h; (exact absurd h0 h); (exact absurd h1 h); exact h
      have d1 := hd j1
      have d2 := hd j2
      rw [hz1, Int.mul_zero, Int.add_zero] at d1
      rw [hz2, Int.mul_zero, Int.add_zero] at d2
      have f0 : (x 0 - l 0) * v2 = 0 := by
        have : (x 0 - l 0) * v2 = ((x 0 - l 0) * m 0 j1 + (x 1 - l 1) * m 1 j1) * m 1 j2 - ((x 0 - l 0) * m 0 j2 + (x 1 - l 1) * m 1 j2) * m 1 j1 := by rw [e2]; clear d1 d2; grind
        rw [this, d1, d2]; simp
      have f1 : (x 1 - l 1) * v2 = 0 := by
        have : (x 1 - l 1) * v2 = ((x 0 - l 0) * m 0 j2 + (x 1 - l 1) * m 1 j2) * m 0 j1 - ((x 0 - l 0) * m 0 j1 + (x 1 - l 1) * m 1 j1) * m 0 j2 := by rw [e2]; clear d1 d2 f0; grind
        rw [this, d1, d2]; simp
      have g0 : x 0 - l 0 = 0 := by rcases Int.mul_eq_zero.1 f0 with h | h; (exact h); exact absurd h h2
      have g1 : x 1 - l 1 = 0 := by rcases Int.mul_eq_zero.1 f1 with h | h; (exact h); exact absurd h h2
      exact same (by omega) (by omega) (by rw [hxz 2 (by omega), hlz 2 (by omega)])
  have hB' : ∀ j1 j2, m 1 j1 * m 2 j2 = m 2 j1 * m 1 j2 ∧ m 2 j1 * m 0 j2 = m 0 j1 * m 2 j2 ∧ m 0 j1 * m 1 j2 = m 1 j1 * m 0 j2 := fun j1 j2 => by
    have h := fun h => hB ⟨j1, j2, h⟩
    refine ⟨?_, ?_, ?_⟩
    · exact Classical.byContradiction fun h2 => h (.inl (by omega))
    · exact Classical.byContradiction fun h2 => h (.inr (.inl (by omega)))
    · exact Classical.byContradiction fun h2 => h (.inr (.inr (by omega)))
  clear hB hA'
  by_cases hC : ∃ j, m 2 j ≠ 0
  · obtain ⟨j, hj⟩ := hC
    have hN3 : N = 3 := by
      rcases Nat.lt_or_ge 2 N with h | h
      · omega
      · exact absurd (hz 2 j h) hj
    have hr0 := HR (v3 (m 2 j) 0 (-m 0 j)) 0 (fun k => by
      have := (hB' j k).2.1
      unfold T3; rw [v3_0, v3_1, v3_2, Int.neg_mul]; omega) (fun i hi => v3_ge _ _ _ (by omega)) hj (fun i hi => by omega)
    have hr1 := HR (v3 0 (m 2 j) (-m 1 j)) 1 (fun k => by
      have := (hB' j k).1
      unfold T3; rw [v3_0, v3_1, v3_2, Int.neg_mul]; omega) (fun i hi => v3_ge _ _ _ (by omega)) hj (fun i hi => by rcases (show i = 0 by omega) with rfl; rfl)
    rw [v3_0] at hr0
    rw [v3_1] at hr1
    have m2 := hm 2 j
    have h0 := pb3 (s := 9) (t := 9) (a := x 0) (by omega) (hm 0 j)
    have h1 := pb3 (s := 9) (t := 9) (a := x 1) (by omega) (hm 1 j)
    have hbj := hb j
    have he : x 2 * m 2 j = T3 m x j - x 0 * m 0 j - x 1 * m 1 j := by unfold T3; omega
    have h2 := bd1 he hj
    omega
  have h2z : ∀ j, m 2 j = 0 := fun j => Classical.byContradiction fun h => hC ⟨j, h⟩
  have hx2 : (x 2).natAbs ≤ 1000000 := by
    rcases Nat.lt_or_ge 2 N with h | h
    · have hr := HR (v3 0 0 1) 2 (fun k => by unfold T3; rw [v3_0, v3_1, v3_2, h2z k]; simp) (fun i hi => v3_ge _ _ _ (by omega)) (by rw [v3_2]; omega) (fun i hi => by
        rcases (show i = 0 ∨ i = 1 by omega) with rfl | rfl <;> rfl)
      rw [v3_2] at hr; omega
    · rw [hxz 2 h]; simp
  by_cases hC1 : ∃ j, m 1 j ≠ 0
  · obtain ⟨j, hj⟩ := hC1
    have hN2 : 2 ≤ N := by
      rcases Nat.lt_or_ge 1 N with h | h
      · omega
      · exact absurd (hz 1 j h) hj
    have hr0 := HR (v3 (m 1 j) (-m 0 j) 0) 0 (fun k => by
      have := (hB' j k).2.2
      unfold T3; rw [v3_0, v3_1, v3_2, Int.neg_mul]; omega) (fun i hi => by
      rcases (show i = 2 ∨ 3 ≤ i by omega) with rfl | h
      · rfl
      · exact v3_ge _ _ _ h) hj (fun i hi => by omega)
    rw [v3_0] at hr0
    have m1 := hm 1 j
    have h0 := pb3 (s := 9) (t := 9) (a := x 0) (by omega) (hm 0 j)
    have hbj := hb j
    have he : x 1 * m 1 j = T3 m x j - x 0 * m 0 j := by unfold T3; rw [h2z j]; omega
    have h2 := bd1 he hj
    omega
  have h1z : ∀ j, m 1 j = 0 := fun j => Classical.byContradiction fun h => hC1 ⟨j, h⟩
  have hx1 : (x 1).natAbs ≤ 1000000 := by
    rcases Nat.lt_or_ge 1 N with h | h
    · have hr := HR (v3 0 1 0) 1 (fun k => by unfold T3; rw [v3_0, v3_1, v3_2, h1z k]; simp) (fun i hi => by
        rcases (show i = 2 ∨ 3 ≤ i by omega) with rfl | h
        · rfl
        · exact v3_ge _ _ _ h) (by rw [v3_1]; omega) (fun i hi => by rcases (show i = 0 by omega) with rfl; rfl)
      rw [v3_1] at hr; omega
    · rw [hxz 1 h]; simp
  by_cases hC0 : ∃ j, m 0 j ≠ 0
  · obtain ⟨j, hj⟩ := hC0
    have hbj := hb j
    have he : x 0 * m 0 j = T3 m x j := by unfold T3; rw [h2z j, h1z j]; omega
    have h2 := bd1 he hj
    omega
  have h0z : ∀ j, m 0 j = 0 := fun j => Classical.byContradiction fun h => hC0 ⟨j, h⟩
  rcases Nat.lt_or_ge 0 N with h | h
  · have hr := HR (v3 1 0 0) 0 (fun k => by unfold T3; rw [v3_0, v3_1, v3_2, h0z k]; simp) (fun i hi => by
      rcases (show i = 1 ∨ i = 2 ∨ 3 ≤ i by omega) with rfl | rfl | h
      · rfl
      · rfl
      · exact v3_ge _ _ _ h) (by rw [v3_0]; omega) (fun i hi => by omega)
    rw [v3_0] at hr
    omega
  · exact ⟨by rw [hxz 0 h]; simp, hx1, hx2⟩
end Go.Proofs.YtcklioolpicmcaaGreatDoor
/- Plain facts on decimal digits: the text of an integer, its value, its length. No program. -/
namespace Go.Proofs.YtcklioolpicmcaaGreatDoor
/-- The value of a row of digits. -/
@[irreducible] def dv (c : UInt8) : Nat := c.toNat - 48
def valB (n : Nat) (l : List UInt8) : Nat := l.foldl (fun n c => 10 * n + dv c) n
def isDig (c : UInt8) : Prop := 48 ≤ c.toNat ∧ c.toNat ≤ 57
theorem dv_eq {c : UInt8} (h : isDig c) : dv c = c.toNat - 48 ∧ c.toNat = 48 + dv c ∧ dv c < 10 := by
  unfold dv; unfold isDig at h; omega
theorem valB_nil (n : Nat) : valB n [] = n := rfl
theorem valB_cons (n : Nat) (c : UInt8) (l : List UInt8) : valB n (c :: l) = valB (10 * n + dv c) l := by unfold valB; rw [List.foldl_cons]
theorem valB_append (n : Nat) (a b : List UInt8) : valB n (a ++ b) = valB (valB n a) b := by
  unfold valB; rw [List.foldl_append]
theorem valB_acc (a : List UInt8) : ∀ n, valB n a = n * 10 ^ a.length + valB 0 a := by
  induction a with
  | nil => intro n; rw [valB_nil, valB_nil]; simp
  | cons c a ih =>
    intro n
    generalize hd : dv c = d
    rw [valB_cons, valB_cons, hd, List.length_cons, Nat.pow_succ, ih (10 * n + d), Nat.mul_zero, Nat.zero_add, ih d]
    generalize valB 0 a = x
    generalize 10 ^ a.length = y
    rw [Nat.add_mul, Nat.mul_comm 10 n, Nat.mul_assoc, Nat.mul_comm 10, Nat.add_assoc]
theorem toNat_ofNat_dig {k : Nat} (h : k < 10) : (UInt8.ofNat (48 + k)).toNat = 48 + k := by
  rw [UInt8.toNat_ofNat']; exact Nat.mod_eq_of_lt (by omega)
theorem valB_dec (u : Nat) : valB 0 (Lib.decDigits u) = u := by
  induction u using Nat.strongRecOn with
  | _ u ih =>
    rw [Lib.decDigits]
    by_cases h : u < 10
    · rw [dif_pos h]; rw [valB_cons, valB_nil]; unfold dv; rw [toNat_ofNat_dig h]; omega
    · rw [dif_neg h, valB_append, ih (u / 10) (by omega)]
      rw [valB_cons, valB_nil]; unfold dv; rw [toNat_ofNat_dig (Nat.mod_lt u (by omega : 0 < 10))]
      omega
theorem dec_inj {u v : Nat} (h : Lib.decDigits u = Lib.decDigits v) : u = v := by
  rw [← valB_dec u, ← valB_dec v, h]
theorem dec_dig (u : Nat) : ∀ c ∈ Lib.decDigits u, isDig c := by
  induction u using Nat.strongRecOn with
  | _ u ih =>
    rw [Lib.decDigits]
    by_cases h : u < 10
    · rw [dif_pos h]; intro c hc; rw [List.mem_singleton] at hc; subst hc; unfold isDig; rw [toNat_ofNat_dig h]; omega
    · rw [dif_neg h]; intro c hc
      rcases List.mem_append.1 hc with hc | hc
      · exact ih _ (by omega) c hc
      · rw [List.mem_singleton] at hc; subst hc; unfold isDig; rw [toNat_ofNat_dig (Nat.mod_lt u (by omega))]; omega
theorem dec_zero : Lib.decDigits 0 = [48] := by rw [Lib.decDigits]; rfl
theorem dec_ne_nil (u : Nat) : Lib.decDigits u ≠ [] := by
  intro h; have := congrArg List.length h; rw [Lib.decDigits_length] at this; have := Lib.nDigits_pos u; simp at *; omega
/-- The first digit is not 0 but for 0 itself. -/
theorem dec_head (u : Nat) : ∃ c t, Lib.decDigits u = c :: t ∧ isDig c ∧ (u ≠ 0 → c.toNat ≠ 48) := by
  induction u using Nat.strongRecOn with
  | _ u ih =>
    rw [Lib.decDigits]
    by_cases h : u < 10
    · rw [dif_pos h]; refine ⟨_, _, rfl, ?_, ?_⟩
      · unfold isDig; rw [toNat_ofNat_dig h]; omega
      · intro hu; rw [toNat_ofNat_dig h]; omega
    · rw [dif_neg h]
      obtain ⟨c, t, e, hd, hz⟩ := ih (u / 10) (by omega)
      exact ⟨c, t ++ _, by rw [e]; rfl, hd, fun _ => hz (by omega)⟩
theorem dec_eq_zero (u : Nat) : (Lib.decDigits u == [48]) = decide (u = 0) := by
  by_cases h : u = 0
  · subst h; rw [dec_zero]; rfl
  · rw [decide_eq_false h]
    obtain ⟨c, t, e, _, hz⟩ := dec_head u
    rw [beq_eq_false_iff_ne, e]
    intro hc
    injection hc with hc _
    exact hz h (by rw [hc]; rfl)
/-- How many digits an integer has, without its sign. -/
def nd (z : Int) : Nat := Lib.nDigits z.natAbs
theorem itoa_neg {z : Int} (h : z < 0) : Lib.itoa z = 45 :: Lib.decDigits z.natAbs := by unfold Lib.itoa; rw [if_pos h]
theorem itoa_pos {z : Int} (h : 0 ≤ z) : Lib.itoa z = Lib.decDigits z.natAbs := by
  unfold Lib.itoa; rw [if_neg (by omega)]; congr 1; omega
theorem itoa_nat (u : Nat) : Lib.itoa (u : Int) = Lib.decDigits u := itoa_pos (by omega)
theorem itoa_zero : Lib.itoa 0 = [48] := by rw [itoa_pos (by omega)]; exact dec_zero
theorem itoa_length (z : Int) : (Lib.itoa z).length = nd z + (if z < 0 then 1 else 0) := by
  by_cases h : z < 0
  · rw [itoa_neg h, if_pos h, List.length_cons, Lib.decDigits_length]; rfl
  · rw [itoa_pos (by omega), if_neg h, Lib.decDigits_length]; rfl
theorem itoa_eq_zero (z : Int) : (Lib.itoa z == [48]) = decide (z = 0) := by
  by_cases h : z < 0
  · rw [itoa_neg h, decide_eq_false (by omega), beq_eq_false_iff_ne]
    intro hc; injection hc with hc _; cases hc
  · rw [itoa_pos (by omega), dec_eq_zero]
    by_cases hz : z = 0
    · simp [hz]
    · rw [decide_eq_false hz, decide_eq_false (by omega)]
theorem itoa_inj {a b : Int} (h : Lib.itoa a = Lib.itoa b) : a = b := by
  by_cases ha : a < 0 <;> by_cases hb : b < 0
  · rw [itoa_neg ha, itoa_neg hb] at h; injection h with _ h; have := dec_inj h; omega
  · rw [itoa_neg ha, itoa_pos (by omega)] at h
    obtain ⟨c, t, e, hd, _⟩ := dec_head b.natAbs
    rw [e] at h; injection h with h _; subst h; exact absurd hd.1 (by decide)
  · rw [itoa_neg hb, itoa_pos (by omega)] at h
    obtain ⟨c, t, e, hd, _⟩ := dec_head a.natAbs
    rw [e] at h; injection h with h _; subst h; exact absurd hd.1 (by decide)
  · rw [itoa_pos (by omega), itoa_pos (by omega)] at h; have := dec_inj h; omega
theorem nDigits_le {u k : Nat} (h : u < 10 ^ k) (hk : 1 ≤ k) : Lib.nDigits u ≤ k := by
  induction k generalizing u with
  | zero => omega
  | succ k ih =>
    by_cases hu : u < 10
    · rw [Lib.nDigits_small hu]; omega
    · rw [Lib.nDigits_big hu]
      rw [Nat.pow_succ] at h
      have hk : 1 ≤ k := by
        rcases Nat.eq_zero_or_pos k with h0 | h0
        · subst h0; simp at h; omega
        · exact h0
      have := ih (u := u / 10) (by omega) hk
      omega
theorem lt_pow_of_nd {u k : Nat} (h : Lib.nDigits u ≤ k) : u < 10 ^ k :=
  Nat.lt_of_lt_of_le (Lib.lt_pow_nDigits u) (Nat.pow_le_pow_right (by omega) h)
theorem nDigits_mono {u v : Nat} (h : u ≤ v) : Lib.nDigits u ≤ Lib.nDigits v :=
  nDigits_le (Nat.lt_of_le_of_lt h (Lib.lt_pow_nDigits v)) (Lib.nDigits_pos v)
theorem pow_le_of_nd {u k : Nat} (h : k < Lib.nDigits u) (hu : u ≠ 0) : 10 ^ k ≤ u := by
  rcases Nat.lt_or_ge u (10 ^ k) with h1 | h1
  · rcases Nat.eq_zero_or_pos k with h0 | h0
    · subst h0; simp at h1; exact absurd h1 hu
    · have := nDigits_le h1 h0; omega
  · exact h1
theorem nd_neg (z : Int) : nd (-z) = nd z := by unfold nd; rw [Int.natAbs_neg]
theorem nd_pos (z : Int) : 1 ≤ nd z := Lib.nDigits_pos _
theorem nd_add (a b : Int) : nd (a + b) ≤ max (nd a) (nd b) + 1 := by
  unfold nd
  refine nDigits_le ?_ (by omega)
  have h1 := lt_pow_of_nd (Nat.le_max_left (Lib.nDigits a.natAbs) (Lib.nDigits b.natAbs))
  have h2 := lt_pow_of_nd (Nat.le_max_right (Lib.nDigits a.natAbs) (Lib.nDigits b.natAbs))
  rw [Nat.pow_succ]
  have := Int.natAbs_add_le a b
  omega
theorem nd_sub (a b : Int) : nd (a - b) ≤ max (nd a) (nd b) + 1 := by
  have := nd_add a (-b); rw [nd_neg] at this; exact this
theorem nd_mul (a b : Int) : nd (a * b) ≤ nd a + nd b := by
  unfold nd
  refine nDigits_le ?_ (by have := Lib.nDigits_pos a.natAbs; omega)
  rw [Int.natAbs_mul, Nat.pow_add]
  exact Nat.mul_lt_mul'' (Lib.lt_pow_nDigits _) (Lib.lt_pow_nDigits _)
end Go.Proofs.YtcklioolpicmcaaGreatDoor
/- The words of the contracts: texts of integers as values; what a call leaves of the world ('Ext': all that was there is as it was). -/
namespace Go.Proofs.YtcklioolpicmcaaGreatDoor
open Go.RowKit
abbrev S (l : List UInt8) : Value := .string ⟨l.toArray⟩
abbrev I (z : Int) : Value := S (Lib.itoa z)
abbrev D (u : Nat) : Value := S (Lib.decDigits u)
/-- The most digits of a number that a contract takes. -/
def LIM : Nat := 1000000000000
/-- All that was there is as it was. -/
def Ext (w w' : World) : Prop := Below w.heap.size w w'
theorem Ext.refl (w : World) : Ext w w := Below.refl _ _
theorem Ext.trans {a b c : World} (h : Ext a b) (k : Ext b c) : Ext a c := Below.trans h (Below.mono k h.size)
theorem Ext.drewN {a b : World} (h : Ext a b) (n : Nat) : Ext a (b.drewN n) := below_drewN h n
theorem Ext.drew {a b : World} (h : Ext a b) : Ext a b.drew := Below.drew h
theorem Ext.alloc {a b : World} (h : Ext a b) (o : Obj) : Ext a (b.alloc o) := Below.alloc h h.size o
theorem Ext.setCell {a b : World} (h : Ext a b) {p : Addr} (hp : a.heap.size ≤ p.block) (v : Value) : Ext a (b.setCell p v) := Below.setCell h hp v
theorem Ext.size {a b : World} (h : Ext a b) : a.heap.size ≤ b.heap.size := Below.size h
theorem Ext.tape {a b : World} (h : Ext a b) : b.tape = a.tape := Below.tape h
theorem Ext.block {a b : World} (h : Ext a b) (k : Nat) (hk : k < a.heap.size) : b.heap[k]? = a.heap[k]? := Below.block h k hk
theorem Ext.cell {a b : World} (h : Ext a b) {p : Addr} {v : Value} (hp : a.cell? p = some v) : b.cell? p = some v := by
  rw [Below.cell h (World.block_lt_of_cell? _ _ hp)]; exact hp
theorem Ext.frozen {a b : World} (h : Ext a b) {p : Addr} (hp : p.block < a.heap.size) : b.frozen? p = a.frozen? p := Below.frozen h hp
theorem Ext.mk' {a b : World} (h : Below a.heap.size a b) : Ext a b := h
theorem ext_cells {W w1 : World} (hb : Ext W w1) : (∀ b o, b < W.heap.size → w1.cell? ⟨b, o, none⟩ = W.cell? ⟨b, o, none⟩) ∧ (∀ b o, b < W.heap.size → w1.frozen? ⟨b, o, none⟩ = W.frozen? ⟨b, o, none⟩) :=
  ⟨fun b o h => Below.cell (p := ⟨b, o, none⟩) hb h, fun b o h => Below.frozen (p := ⟨b, o, none⟩) hb h⟩
theorem ret_val {a b : Value} (h : a = b) : Ending.returned a = .returned b := by rw [h]
theorem S_extract1 (c : UInt8) (l : List UInt8) (n : Nat) (h : n = l.length + 1) : Value.string ((⟨(c :: l).toArray⟩ : ByteArray).extract 1 n) = S l := by
  subst h
  congr 1
  rw [ByteArray.extract_mk]
  congr 1
  simp
end Go.Proofs.YtcklioolpicmcaaGreatDoor
/- Package whole: split, join, Sign, Neg, Abs. -/
namespace Go.Proofs.YtcklioolpicmcaaGreatDoor
open Go.RowKit
theorem split_neg {z : Int} (hz : z < 0) (_hl : nd z ≤ LIM) (w : World) : Calls Tryz.prog 158 #[I z] w fun e w' => e = .returned (.tuple #[.bool true, D z.natAbs]) ∧ Ext w w' := by
  rw [show I z = S (45 :: Lib.decDigits z.natAbs) by unfold I; rw [itoa_neg hz]]
  have hl : (Lib.decDigits z.natAbs).length ≤ 1000000000000 := by rw [Lib.decDigits_length]; exact _hl
  clear _hl
  rw [show D z.natAbs = S (Lib.decDigits z.natAbs) from rfl]
  generalize Lib.decDigits z.natAbs = l at *
  go_enter Tryz.func158, Tryz.ntmps158
  go_wp2
  go_quiet (fail)
  go_wp2
  go_ret2
  have E := S_extract1 45 l _ rfl
  exact ⟨ret_val (congrArg (fun v => Value.tuple #[.bool true, v]) E), (Ext.refl _).drewN _⟩
theorem split_pos {z : Int} (hz : 0 ≤ z) (w : World) : Calls Tryz.prog 158 #[I z] w fun e w' => e = .returned (.tuple #[.bool false, D z.natAbs]) ∧ Ext w w' := by
  rw [show I z = S (Lib.decDigits z.natAbs) by unfold I; rw [itoa_pos hz]]
  obtain ⟨c, l, e, hd, _⟩ := dec_head z.natAbs
  unfold D; rw [e]; clear e
  have h1 : ((c.toNat : Int) == 45) = false := beq_eq_false_iff_ne.2 (by have := hd.1; omega)
  have h2 : (((⟨(c :: l).toArray⟩ : ByteArray)[0]'(by show 0 < (c :: l).toArray.size; simp)).toNat : Int) = c.toNat := rfl
  clear hz hd
  go_enter Tryz.func158, Tryz.ntmps158
  go_wp2
  go_ret2
  exact ⟨rfl, Ext.refl _⟩
theorem join_pos (u : Nat) (w : World) : Calls Tryz.prog 162 #[.bool false, D u] w fun e w' => e = .returned (I (u : Int)) ∧ Ext w w' := by
  rw [show I (u : Int) = D u by unfold I D; rw [itoa_nat]]
  unfold D
  generalize Lib.decDigits u = l
  go_enter Tryz.func162, Tryz.ntmps162
  go_wp2
  go_ret
  exact ⟨rfl, Ext.refl _⟩
theorem join_neg (u : Nat) (hl : Lib.nDigits u ≤ LIM) (w : World) : Calls Tryz.prog 162 #[.bool true, D u] w fun e w' => e = .returned (I (-(u : Int))) ∧ Ext w w' := by
  have hl' : (Lib.decDigits u).length ≤ 1000000000000 := by rw [Lib.decDigits_length]; exact hl
  clear hl
  by_cases hu : u = 0
  · subst hu
    unfold D I; rw [dec_zero, show (-((0 : Nat) : Int)) = 0 from rfl, itoa_zero]
    go_enter Tryz.func162, Tryz.ntmps162
    go_wp2
    go_ret
    exact ⟨rfl, Ext.refl _⟩
  · have hz : (Lib.decDigits u == [48]) = false := by rw [dec_eq_zero, decide_eq_false hu]
    have hr : I (-(u : Int)) = S (45 :: Lib.decDigits u) := by unfold I; rw [itoa_neg (by omega)]; congr 2; simp
    rw [hr]; clear hr hu
    unfold D
    generalize Lib.decDigits u = l at *
    go_enter Tryz.func162, Tryz.ntmps162
    go_wp2
    go_ret
    exact ⟨ret_val (by simp only [S]; congr 1), Ext.refl _⟩
theorem join_any (b : Bool) (u : Nat) (hl : Lib.nDigits u ≤ LIM) (w : World) : Calls Tryz.prog 162 #[.bool b, D u] w fun e w' => e = .returned (I (if b then -(u : Int) else u)) ∧ Ext w w' := by
  cases b
  · exact join_pos u w
  · exact join_neg u hl w
theorem Neg_any {z : Int} (hl : nd z ≤ LIM) (w : World) : Calls Tryz.prog 118 #[I z] w fun e w' => e = .returned (I (-z)) ∧ Ext w w' := by
  by_cases hz : z < 0
  · have H := Lib.hid (show -z = (z.natAbs : Int) by omega)
    have H1 := Lib.hid (split_neg hz hl)
    clear hl hz
    go_enter Tryz.func118, Tryz.ntmps118
    go_wp2_with (first
      | (go_at_call 158; refine (H1.out _).mono ?_; rintro e w1 ⟨rfl, hb1⟩)
      | (go_at_call 162; refine (join_pos _ _).mono ?_; rintro e w2 ⟨rfl, hb2⟩))
    go_ret
    exact ⟨ret_val (by rw [H.out]; rfl), hb1.trans hb2⟩
  · have H := Lib.hid (show -z = -(z.natAbs : Int) by omega)
    have H1 := Lib.hid (split_pos (z := z) (by omega))
    have H2 := Lib.hid (show Lib.nDigits z.natAbs ≤ LIM from hl)
    clear hl hz
    go_enter Tryz.func118, Tryz.ntmps118
    go_wp2_with (first
      | (go_at_call 158; refine (H1.out _).mono ?_; rintro e w1 ⟨rfl, hb1⟩)
      | (go_at_call 162; refine (join_neg _ H2.out _).mono ?_; rintro e w2 ⟨rfl, hb2⟩))
    go_ret
    exact ⟨ret_val (by rw [H.out]; rfl), hb1.trans hb2⟩
theorem Abs_any {z : Int} (hl : nd z ≤ LIM) (w : World) : Calls Tryz.prog 121 #[I z] w fun e w' => e = .returned (I (z.natAbs : Int)) ∧ Ext w w' := by
  have H1 : Hid (∀ w, ∃ b, Calls Tryz.prog 158 #[I z] w fun e w' => e = .returned (.tuple #[.bool b, D z.natAbs]) ∧ Ext w w') := by
    intro w
    by_cases hz : z < 0
    · exact ⟨true, split_neg hz hl w⟩
    · exact ⟨false, split_pos (by omega) w⟩
  have H := Lib.hid (show I (z.natAbs : Int) = D z.natAbs by unfold I D; rw [itoa_nat])
  clear hl
  obtain ⟨b, hc⟩ := H1.out w
  have H2 := Lib.hid hc
  clear H1 hc
  go_enter Tryz.func121, Tryz.ntmps121
  go_wp2_with (first
    | (go_at_call 158; refine H2.out.mono ?_; rintro e w1 ⟨rfl, hb1⟩))
  go_ret
  exact ⟨ret_val (by rw [H.out]; rfl), hb1⟩
theorem Sign_any (z : Int) (w : World) : Calls Tryz.prog 123 #[I z] w fun e w' => e = .returned (.int .i64 z.sign) ∧ Ext w w' := by
  rcases Int.lt_trichotomy z 0 with h | h | h
  · rw [show I z = S (45 :: Lib.decDigits z.natAbs) by unfold I; rw [itoa_neg h], Int.sign_eq_neg_one_of_neg h]
    clear h
    generalize Lib.decDigits z.natAbs = l
    have h2 : (((⟨(45 :: l).toArray⟩ : ByteArray)[0]'(by show 0 < (45 :: l).toArray.size; simp)).toNat : Int) = 45 := rfl
    go_enter Tryz.func123, Tryz.ntmps123
    go_wp2
    go_ret
    exact ⟨rfl, Ext.refl _⟩
  · subst h
    unfold I; rw [itoa_zero]
    go_enter Tryz.func123, Tryz.ntmps123
    go_wp2
    go_ret
    exact ⟨rfl, Ext.refl _⟩
  · rw [show I z = S (Lib.decDigits z.natAbs) by unfold I; rw [itoa_pos (by omega)], Int.sign_eq_one_of_pos h]
    have hz : (Lib.decDigits z.natAbs == [48]) = false := by rw [dec_eq_zero, decide_eq_false (by omega)]
    obtain ⟨c, l, e, hd, _⟩ := dec_head z.natAbs
    rw [e] at hz
    rw [e]; clear e h
    have h1 : ((c.toNat : Int) == 45) = false := beq_eq_false_iff_ne.2 (by have := hd.1; omega)
    have h2 : (((⟨(c :: l).toArray⟩ : ByteArray)[0]'(by show 0 < (c :: l).toArray.size; simp)).toNat : Int) = c.toNat := rfl
    clear hd
    go_enter Tryz.func123, Tryz.ntmps123
    go_wp2
    go_ret
    exact ⟨rfl, Ext.refl _⟩
end Go.Proofs.YtcklioolpicmcaaGreatDoor
