/- Part 3 of the proof of the claim: contracts of the functions that it reaches, and plain laws; no condition. -/
import Derived.Test.YtokjolmpdfmnbaaGreatDoorW01
import Derived.Test.YtokjolmpdfmnbaaGreatDoorW02
import Derived.Lib.ItoaNum
import Derived.Test.YtokjolmpdfmnbaaGreatDoorProg
import Derived.WalkKit
import Derived.WalkLawsBesides
import Derived.WalkSpells
import Derived.Deep.QuietTactic
import Derived.BigQuiet
import Derived.Below
import Derived.Lib.Hide
import Derived.Deep.LoopGhost
import Derived.Lib.Strings
import Derived.Lib.IndexBytes
namespace Go.Proofs.YtokjolmpdfmnbaaGreatDoor
def pv (r : List Int) : Nat := r.findIdx fun z => decide (z ≠ 0)
def pvI (r : List Int) : Int := if pv r < r.length then (pv r : Int) else -1
theorem pv_le (r : List Int) : pv r ≤ r.length := List.findIdx_le_length
theorem pv_zero {r : List Int} {j : Nat} (h : j < pv r) : r.getD j 0 = 0 := by
  have hl : j < r.length := Nat.lt_of_lt_of_le h (pv_le r)
  have := List.not_of_lt_findIdx (p := fun z : Int => decide (z ≠ 0)) (xs := r) h
  rw [getD_get hl]
  simpa using this
theorem pv_ne {r : List Int} (h : pv r < r.length) : r.getD (pv r) 0 ≠ 0 := by
  have := List.findIdx_getElem (xs := r) (p := fun z : Int => decide (z ≠ 0)) (w := h)
  rw [getD_get h]
  simpa [pv] using this
theorem pvI_ix (r : List Int) : IxR (fun i => decide (r.getD i 0 ≠ 0)) r.length (pvI r) := by
  unfold pvI
  by_cases h : pv r < r.length
  · rw [if_pos h]
    exact .inr ⟨pv r, h, rfl, decide_eq_true (pv_ne h), fun j hj => decide_eq_false (by simpa using pv_zero hj)⟩
  · rw [if_neg h]
    exact .inl ⟨rfl, fun i hi => decide_eq_false (by simpa using pv_zero (by omega))⟩
theorem pv_of {r : List Int} {p : Nat} (hp : r.getD p 0 ≠ 0) (hz : ∀ j, j < p → r.getD j 0 = 0) : pv r = p ∧ p < r.length := by
  have hl : p < r.length := by
    rcases Nat.lt_or_ge p r.length with h | h
    · exact h
    · rw [List.getD_eq_getElem?_getD, List.getElem?_eq_none h] at hp; exact absurd rfl hp
  refine ⟨?_, hl⟩
  rcases Nat.lt_trichotomy (pv r) p with h | h | h
  · exact absurd (hz _ h) (pv_ne (by omega))
  · exact h
  · exact absurd (pv_zero h) hp
theorem getD_map {α β : Type} (f : α → β) (l : List α) (i : Nat) (h : i < l.length) (d : β) (e : α) : (l.map f).getD i d = f (l.getD i e) := by
  rw [getD_get (by simpa using h), getD_get h]; simp
theorem isH_pv {n : Nat} {ps : List Nat} {M : Mx} (h : IsH n ps M) : ps = M.map pv := by
  refine List.ext_getElem (by rw [h.len]; simp) fun i h1 h2 => ?_
  have hi : i < M.length := by simpa using h2
  have hp := h.pos i hi
  have hl := h.left i hi
  rw [getD_get h1] at hp hl
  have := (pv_of (r := M.getD i []) (p := ps[i]) (by show eM M i ps[i] ≠ 0; omega) (fun j hj => hl j hj)).1
  rw [List.getElem_map, ← this, getD_get hi]
theorem take_snocM {F : Mx} {i : Nat} (h : i < F.length) : F.take (i + 1) = F.take i ++ [F[i]] := List.take_succ_eq_append_getElem h
end Go.Proofs.YtokjolmpdfmnbaaGreatDoor
namespace Go.Proofs.YtokjolmpdfmnbaaGreatDoor
open Hnf (V Span Ech Red)
def det2 (x y : V) (p q : Nat) : Int := x p * y q - x q * y p
def det3 (x y z : V) (p q s : Nat) : Int := x p * det2 y z q s - x q * det2 y z p s + x s * det2 y z p q
def det4 (x y z t : V) (p q s u : Nat) : Int := x p * det3 y z t q s u - x q * det3 y z t p s u + x s * det3 y z t p q u - x u * det3 y z t p q s
structure Duals (M : List V) (ps : List Nat) (r C : Nat) (d : Int) (w : Nat → V) : Prop where
  ne : d ≠ 0
  span : ∀ k, k < r → Span M (w k)
  at' : ∀ k, k < r → ∀ s, s < r → w k (ps.getD s 0) = if k = s then d else 0
  abs : ∀ k, k < r → ∀ j, (w k j).natAbs ≤ C
theorem span_of_eq {M : List V} {v u : V} (h : Span M v) (e : ∀ j, u j = v j) : Span M u := by rw [show u = v from funext e]; exact h
theorem Duals.mono {M N : List V} {ps : List Nat} {r C : Nat} {d : Int} {w : Nat → V} (h : Duals M ps r C d w) (hM : ∀ v ∈ M, Span N v) : Duals N ps r C d w := ⟨h.ne, fun k hk => (h.span k hk).trans hM, h.at', h.abs⟩
end Go.Proofs.YtokjolmpdfmnbaaGreatDoor
namespace Go.Proofs.YtokjolmpdfmnbaaGreatDoor
open Hnf (V Span Ech Red)
def stepQ (r x : List Int) : Int := (x.getD (pv r) 0).fdiv (r.getD (pv r) 0)
def redX : Mx → List Int → List Int
  | [], x => x
  | r :: F, x => redX F (subK (stepQ r x) x r)
def redQ : Mx → List Int → List Int
  | [], _ => []
  | r :: F, x => stepQ r x :: redQ F (subK (stepQ r x) x r)
theorem redX_snoc (r : List Int) : ∀ (F : Mx) (x : List Int), redX (F ++ [r]) x = subK (stepQ r (redX F x)) (redX F x) r
  | [], x => rfl
  | f :: F, x => by rw [List.cons_append, redX, redX, redX_snoc r F]
@[simp] theorem redX_length : ∀ (F : Mx) (x : List Int), (redX F x).length = x.length
  | [], x => rfl
  | f :: F, x => by rw [redX, redX_length F]; simp
@[simp] theorem redQ_length : ∀ (F : Mx) (x : List Int), (redQ F x).length = F.length
  | [], x => rfl
  | f :: F, x => by rw [redQ, List.length_cons, redQ_length F]; rfl
theorem redX_take {F : Mx} {i : Nat} (h : i < F.length) (x : List Int) : redX (F.take (i + 1)) x = subK (stepQ (F.getD i []) (redX (F.take i) x)) (redX (F.take i) x) (F.getD i []) := by
  rw [take_snocM h, redX_snoc, getD_get h]
def Piv (F : Mx) : Prop := ∀ i, i < F.length → (F.getD i []).getD (pv (F.getD i [])) 0 ≠ 0
theorem IsH.piv {n : Nat} {ps : List Nat} {F : Mx} (h : IsH n ps F) : Piv F := by
  intro i hi
  have e := isH_pv h
  have := h.pos i hi
  rw [e, getD_map pv F i hi 0 []] at this
  have h2 : eM F i (pv (F.getD i [])) ≠ 0 := by omega
  exact h2
theorem stepQ_abs {r x : List Int} (h : r.getD (pv r) 0 ≠ 0) {B : Nat} (hB : 0 < B) (hx : ∀ z ∈ x, z.natAbs < B) : (stepQ r x).natAbs < B := by
  refine Nat.lt_of_le_of_lt (fdiv_abs _ h) ?_
  rw [List.getD_eq_getElem?_getD]
  rcases Nat.lt_or_ge (pv r) x.length with hl | hl
  · rw [List.getElem?_eq_getElem hl]; exact hx _ (List.getElem_mem hl)
  · rw [List.getElem?_eq_none hl]; simpa using hB
def zeroL (l : List Int) : Prop := ∀ z ∈ l, z = 0
theorem zero_vr {l : List Int} : zeroL l ↔ ∀ j, vr l j = 0 := by
  constructor
  · intro h j
    show l.getD j 0 = 0
    rw [List.getD_eq_getElem?_getD]
    rcases Nat.lt_or_ge j l.length with hj | hj
    · rw [List.getElem?_eq_getElem hj]; exact h _ (List.getElem_mem hj)
    · rw [List.getElem?_eq_none hj]; rfl
  · intro h z hz
    obtain ⟨j, hj, rfl⟩ := List.getElem_of_mem hz
    have := h j
    show l[j] = 0
    rw [← getD_get hj 0]; exact this
end Go.Proofs.YtokjolmpdfmnbaaGreatDoor
namespace Go.Proofs.YtokjolmpdfmnbaaGreatDoor
open Hnf (V Span Ech Red)
def ln1 (M : Mx) : List Ln := M.map fun r => (r, [])
@[simp] theorem ln1_length (M : Mx) : (ln1 M).length = M.length := by simp [ln1]
theorem ln1_dim {n : Nat} {M : Mx} (h : Rect n M) : Dim n 0 (ln1 M) := by
  intro l hl
  obtain ⟨r, hr, rfl⟩ := List.mem_map.1 hl
  exact ⟨h r hr, rfl⟩
theorem ln1_lat (M : Mx) : latL (ln1 M) = latM M := by simp [latL, latM, ln1, Function.comp_def]
theorem form_of1 {n d : Nat} {ps : List Nat} {M : Mx} {ls : List Ln} (hM : Rect n M) (ho : Ops 0 (ln1 M) ls) (h : FormTo n d ps ls) : HnfOf n M (fRows d ls) := by
  have hd0 := ln1_dim hM
  have hd := hd0.ops ho
  have hl := ho.lat hd0
  rw [ln1_lat] at hl
  have hf := h.lat hd
  exact ⟨⟨ps, h.isH hd⟩, fun v hv => hl.1 v (hf.1 v hv), fun v hv => (hl.2 v hv).trans hf.2⟩
theorem FormTo.full {c c' d : Nat} {ps : List Nat} {ls : List Ln} (h : FormTo c d ps ls) (hd : d = ls.length) (hc : c ≤ c') : FormTo c' d ps ls :=
  ⟨h.len, h.le, fun i hi => by have := h.lt i hi; omega, h.inc, h.left, h.pos, h.red, fun i h1 h2 => by omega⟩
def sumZ (f : Nat → Int) : Nat → Int
  | 0 => 0
  | n + 1 => sumZ f n + f n
theorem sumZ_congr {f g : Nat → Int} : ∀ {n}, (∀ i, i < n → f i = g i) → sumZ f n = sumZ g n
  | 0, _ => rfl
  | n + 1, h => by rw [sumZ, sumZ, sumZ_congr (fun i hi => h i (by omega)), h n (by omega)]
theorem sumZ_zero {f : Nat → Int} : ∀ {n}, (∀ i, i < n → f i = 0) → sumZ f n = 0
  | 0, _ => rfl
  | n + 1, h => by rw [sumZ, sumZ_zero (fun i hi => h i (by omega)), h n (by omega)]; rfl
theorem sumZ_sub (f g : Nat → Int) : ∀ n, sumZ (fun i => f i - g i) n = sumZ f n - sumZ g n
  | 0 => rfl
  | n + 1 => by rw [sumZ, sumZ, sumZ, sumZ_sub f g n]; omega
theorem sumZ_mul (q : Int) (f : Nat → Int) : ∀ n, sumZ (fun i => q * f i) n = q * sumZ f n
  | 0 => by simp [sumZ]
  | n + 1 => by rw [sumZ, sumZ, sumZ_mul q f n, Int.mul_add]
theorem sumZ_one {f : Nat → Int} {k : Nat} : ∀ {n}, k < n → (∀ i, i < n → i ≠ k → f i = 0) → sumZ f n = f k
  | 0, h, _ => by omega
  | n + 1, h, hz => by
    rw [sumZ]
    by_cases e : k = n
    · subst e; rw [sumZ_zero (fun i hi => hz i (by omega) (by omega))]; omega
    · rw [sumZ_one (n := n) (by omega) (fun i hi => hz i (by omega)), hz n (by omega) (Ne.symm e)]; omega
def cmb (M : Mx) (y : V) : V := fun j => sumZ (fun i => y i * eM M i j) M.length
theorem cmb_sub (M : Mx) (y z : V) (q : Int) (j : Nat) : cmb M (Hnf.sub y q z) j = cmb M y j - q * cmb M z j := by
  unfold cmb
  rw [← sumZ_mul, ← sumZ_sub]
  exact sumZ_congr fun i _ => by simp only [Hnf.sub]; grind
theorem cmb_zero (M : Mx) (j : Nat) : cmb M (fun _ => 0) j = 0 := sumZ_zero fun i _ => by simp
def wideM (M : Mx) : Mx := M.mapIdx fun i r => r ++ unitR M.length i
@[simp] theorem wideM_length (M : Mx) : (wideM M).length = M.length := by simp [wideM]
theorem wideM_get {M : Mx} {i : Nat} (h : i < M.length) : (wideM M)[i]'(by simpa using h) = M[i] ++ unitR M.length i := by simp [wideM]
theorem wideM_rect {c : Nat} {M : Mx} (h : Rect c M) : Rect (c + M.length) (wideM M) := by
  intro r hr
  obtain ⟨i, hi, rfl⟩ := List.getElem_of_mem hr
  rw [wideM_get (by simpa using hi), List.length_append, h _ (List.getElem_mem _)]
  simp [unitR]
theorem unitR_getD (m i j : Nat) : (unitR m i).getD j 0 = if j = i ∧ i < m then 1 else 0 := by
  unfold unitR
  rw [List.getD_eq_getElem?_getD, List.getElem?_set]
  by_cases e : i = j
  · subst e
    by_cases h : i < m
    · simp [h]
    · simp [h]
  · rw [if_neg e, if_neg (by omega), List.getElem?_replicate]
    split <;> rfl
theorem wide_vr {c : Nat} {M : Mx} (hR : Rect c M) {i : Nat} (h : i < M.length) (j : Nat) : vr ((wideM M)[i]'(by simpa using h)) j = if j < c then eM M i j else if j = c + i then 1 else 0 := by
  have hl : M[i].length = c := hR _ (List.getElem_mem h)
  rw [wideM_get h]
  unfold vr eM
  rw [getD_get h]
  simp only [List.getD_eq_getElem?_getD]
  by_cases hj : j < c
  · rw [if_pos hj, List.getElem?_append_left (by omega)]
  · rw [if_neg hj, List.getElem?_append_right (by omega), ← List.getD_eq_getElem?_getD, unitR_getD, hl]
    by_cases e : j = c + i
    · rw [if_pos e, if_pos (by omega)]
    · rw [if_neg e, if_neg (by omega)]
theorem eM_vr {M : Mx} {i : Nat} (h : i < M.length) (j : Nat) : eM M i j = vr M[i] j := by unfold eM vr; rw [getD_get h]
theorem wide_span {c : Nat} {M : Mx} (hR : Rect c M) {v : V} (h : Span (latM (wideM M)) v) : (∀ j, j < c → v j = cmb M (fun i => v (c + i)) j) ∧ ∀ j, c + M.length ≤ j → v j = 0 := by
  induction h with
  | zero => exact ⟨fun j _ => (cmb_zero M j).symm, fun _ _ => rfl⟩
  | @step v r q _ hr ih =>
    obtain ⟨x, hx, rfl⟩ := List.mem_map.1 hr
    obtain ⟨i, hi, rfl⟩ := List.getElem_of_mem hx
    have hi' : i < M.length := by simpa using hi
    refine ⟨fun j hj => ?_, fun j hj => ?_⟩
    · have e : (fun k => Hnf.sub v q (vr (wideM M)[i]) (c + k)) = Hnf.sub (fun k => v (c + k)) q (fun k => if k = i then 1 else 0) := by
        funext k
        simp only [Hnf.sub, wide_vr hR hi']
        rw [if_neg (by omega)]
        by_cases e : k = i
        · rw [if_pos (by omega), if_pos e]
        · rw [if_neg (by omega), if_neg e]
      rw [e, cmb_sub]
      have e2 : cmb M (fun k => if k = i then 1 else 0) j = eM M i j := by
        unfold cmb
        rw [sumZ_one (k := i) hi' (fun t _ ht => by simp only [if_neg ht]; simp)]
        simp
      rw [e2]
      simp only [Hnf.sub, wide_vr hR hi', if_pos hj, ← ih.1 j hj]
    · simp only [Hnf.sub, wide_vr hR hi', ih.2 j hj]
      rw [if_neg (by omega), if_neg (by omega)]; simp
theorem span_sum {M : List V} {f : Nat → V} (y : V) : ∀ {n : Nat}, (∀ i, i < n → Span M (f i)) → Span M (fun j => sumZ (fun i => y i * f i j) n)
  | 0, _ => .zero
  | n + 1, h => by
    have h1 := span_sum y (n := n) (fun i hi => h i (by omega))
    refine span_of_eq (h1.sub (-(y n)) (h n (by omega))) fun j => ?_
    simp only [Hnf.sub, sumZ]; grind
theorem span_wide {c : Nat} {M : Mx} (hR : Rect c M) {v : V} (h1 : ∀ j, j < c → v j = cmb M (fun i => v (c + i)) j) (h2 : ∀ j, c + M.length ≤ j → v j = 0) : Span (latM (wideM M)) v := by
  have hs := span_sum (M := latM (wideM M)) (f := fun i => vr ((wideM M).getD i [])) (fun i => v (c + i)) (n := M.length) (fun i hi => by
    rw [getD_get (by simpa using hi)]; exact .mem (List.mem_map.2 ⟨_, List.getElem_mem _, rfl⟩))
  refine span_of_eq hs fun j => ?_
  have e : ∀ i, i < M.length → v (c + i) * vr ((wideM M).getD i []) j = v (c + i) * (if j < c then eM M i j else if j = c + i then 1 else 0) := fun i hi => by
    rw [getD_get (by simpa using hi), wide_vr hR hi]
  rw [sumZ_congr e]
  by_cases hj : j < c
  · rw [h1 j hj]; unfold cmb; exact sumZ_congr fun i _ => by rw [if_pos hj]
  · by_cases hj2 : j < c + M.length
    · rw [sumZ_one (k := j - c) (by omega) (fun i hi hne => by rw [if_neg hj, if_neg (by omega)]; simp), if_neg hj, if_pos (by omega), show c + (j - c) = j by omega]; simp
    · rw [h2 j (by omega), sumZ_zero fun i hi => by rw [if_neg hj, if_neg (by omega)]; simp]
def upr (c : Nat) (H : Mx) : Mx := H.filter fun r => decide (pv r < c)
def low (c : Nat) (H : Mx) : Mx := H.filter fun r => !decide (pv r < c)
def krn (c : Nat) (H : Mx) : Mx := (low c H).map (List.drop c)
theorem split_at (P : Nat → Prop) (hm : ∀ i j, i < j → ¬ P i → ¬ P j) : ∀ k, ∃ u, u ≤ k ∧ (∀ i, i < u → P i) ∧ ∀ i, u ≤ i → i < k → ¬ P i
  | 0 => ⟨0, by omega, fun i h => by omega, fun i _ h => by omega⟩
  | k + 1 => by
    obtain ⟨u, hu, h1, h2⟩ := split_at P hm k
    by_cases hk : P k
    · have : u = k := Classical.byContradiction fun hne => hm u k (by omega) (h2 u (Nat.le_refl _) (by omega)) hk
      subst this
      exact ⟨u + 1, by omega, fun i hi => by
        rcases Nat.lt_or_ge i u with h | h
        · exact h1 i h
        · have : i = u := by omega
          subst this; exact hk, fun i h h' => by omega⟩
    · exact ⟨u, by omega, h1, fun i hi hik => by
        by_cases e : i = k
        · subst e; exact hk
        · exact h2 i hi (by omega)⟩
theorem filter_take {α : Type} {p : α → Bool} : ∀ {l : List α} {u : Nat}, (∀ i (h : i < l.length), i < u → p l[i] = true) → (∀ i (h : i < l.length), u ≤ i → p l[i] = false) → l.filter p = l.take u ∧ l.filter (fun a => !p a) = l.drop u
  | [], u, _, _ => by simp
  | a :: l, 0, _, h2 => by
    have ih := filter_take (l := l) (u := 0) (p := p) (fun i h hi => by omega) (fun i h _ => by have := h2 (i + 1) (by simpa using h) (by omega); simpa using this)
    have ha := h2 0 (by simp) (by omega)
    simp only [List.getElem_cons_zero] at ha
    rw [List.filter_cons_of_neg (by simp [ha]), List.filter_cons_of_pos (by simp [ha]), ih.1, ih.2]
    simp
  | a :: l, u + 1, h1, h2 => by
    have ih := filter_take (l := l) (u := u) (p := p) (fun i h hi => by have := h1 (i + 1) (by simpa using h) (by omega); simpa using this) (fun i h hi => by have := h2 (i + 1) (by simpa using h) (by omega); simpa using this)
    have ha := h1 0 (by simp) (by omega)
    simp only [List.getElem_cons_zero] at ha
    rw [List.filter_cons_of_pos ha, List.filter_cons_of_neg (by simp [ha]), ih.1, ih.2]
    simp
theorem IsH.pvs {n : Nat} {ps : List Nat} {H : Mx} (h : IsH n ps H) {i : Nat} (hi : i < H.length) : ps.getD i 0 = pv (H.getD i []) := by
  rw [isH_pv h, getD_map pv H i hi 0 []]
theorem IsH.split {n : Nat} {ps : List Nat} {H : Mx} (h : IsH n ps H) (c : Nat) : ∃ u, u ≤ H.length ∧ upr c H = H.take u ∧ low c H = H.drop u ∧ (∀ i, i < u → ps.getD i 0 < c) ∧ ∀ i, u ≤ i → i < H.length → c ≤ ps.getD i 0 := by
  obtain ⟨u, hu, h1, h2⟩ := split_at (fun i => i < H.length ∧ ps.getD i 0 < c) (fun i j hij hn hp => hn ⟨by omega, by have := h.inc i j hij hp.1; omega⟩) H.length
  have hf := filter_take (p := fun r => decide (pv r < c)) (l := H) (u := u) (fun i hi hiu => by
    have := (h1 i hiu).2
    rw [h.pvs hi, getD_get hi] at this
    exact decide_eq_true this) (fun i hi hiu => by
    have := h2 i hiu hi
    refine decide_eq_false fun hc => this ⟨hi, ?_⟩
    rw [h.pvs hi, getD_get hi]; exact hc)
  exact ⟨u, hu, hf.1, hf.2, fun i hi => (h1 i hi).2, fun i hi hl => Classical.byContradiction fun hc => h2 i hi hl ⟨hl, by omega⟩⟩
theorem getD_take {l : List Int} {c j : Nat} (h : j < c) : (l.take c).getD j 0 = l.getD j 0 := by
  simp only [List.getD_eq_getElem?_getD, List.getElem?_take, if_pos h]
theorem getD_drop (l : List Int) (c j : Nat) : (l.drop c).getD j 0 = l.getD (c + j) 0 := by
  simp only [List.getD_eq_getElem?_getD, List.getElem?_drop]
theorem eM_map_drop {c : Nat} {H : Mx} {i j : Nat} : eM (H.map (List.drop c)) i j = eM H i (c + j) := by
  unfold eM
  rcases Nat.lt_or_ge i H.length with hi | hi
  · rw [getD_map (List.drop c) H i hi [] [], getD_drop]
  · rw [show (H.map (List.drop c)).getD i [] = [] by rw [List.getD_eq_getElem?_getD, List.getElem?_eq_none (by simpa using hi)]; rfl, show H.getD i [] = [] by rw [List.getD_eq_getElem?_getD, List.getElem?_eq_none hi]; rfl]; rfl
theorem eM_drop {H : Mx} {u i j : Nat} : eM (H.drop u) i j = eM H (u + i) j := by
  unfold eM; simp only [List.getD_eq_getElem?_getD, List.getElem?_drop]
theorem IsH.rightD {n c m u : Nat} {ps : List Nat} {H : Mx} (h : IsH n ps H) (hn : n = c + m) (hu : u ≤ H.length) (hp : ∀ i, u ≤ i → i < H.length → c ≤ ps.getD i 0) : IsH m ((ps.drop u).map (fun p => p - c)) ((H.drop u).map (List.drop c)) := by
  have hl : ((H.drop u).map (List.drop c)).length = H.length - u := by simp
  have hpl := h.len
  have hps : ∀ i, i < H.length - u → ((ps.drop u).map (fun p => p - c)).getD i 0 = ps.getD (u + i) 0 - c := fun i hi => by
    rw [List.getD_eq_getElem?_getD, List.getElem?_map, List.getElem?_drop, List.getElem?_eq_getElem (by omega), getD_get (by omega)]; rfl
  refine ⟨fun r hr => ?_, by simp; omega, fun i hi => ?_, fun i k hik hk => ?_, fun i hi j hj => ?_, fun i hi => ?_, fun i k hik hk => ?_⟩
  · obtain ⟨s, hs, rfl⟩ := List.mem_map.1 hr
    rw [List.length_drop, h.rect s (List.mem_of_mem_drop hs)]; omega
  · rw [hps i (by omega)]; have := h.lt (u + i) (by omega); have := hp (u + i) (by omega) (by omega); omega
  · rw [hps i (by omega), hps k (by omega)]
    have := h.inc (u + i) (u + k) (by omega) (by omega)
    have := hp (u + i) (by omega) (by omega); omega
  · rw [hps i (by omega)] at hj
    rw [eM_map_drop, eM_drop]; exact h.left (u + i) (by omega) _ (by omega)
  · rw [hps i (by omega), eM_map_drop, eM_drop]
    have := hp (u + i) (by omega) (by omega)
    rw [show c + (ps.getD (u + i) 0 - c) = ps.getD (u + i) 0 by omega]; exact h.pos (u + i) (by omega)
  · have := hp (u + k) (by omega) (by omega)
    rw [hps k (by omega), eM_map_drop, eM_map_drop, eM_drop, eM_drop, show c + (ps.getD (u + k) 0 - c) = ps.getD (u + k) 0 by omega]; exact h.red (u + i) (u + k) (by omega) (by omega)
end Go.Proofs.YtokjolmpdfmnbaaGreatDoor
namespace Go.Proofs.YtokjolmpdfmnbaaGreatDoor
open Hnf (V Span Ech Red)
theorem vr_far {l : List Int} {j : Nat} (h : l.length ≤ j) : vr l j = 0 := by
  show l.getD j 0 = 0
  rw [List.getD_eq_getElem?_getD, List.getElem?_eq_none h]; rfl
theorem vr_take {l : List Int} {c : Nat} (j : Nat) : vr (l.take c) j = if j < c then vr l j else 0 := by
  by_cases h : j < c
  · rw [if_pos h]; exact getD_take h
  · rw [if_neg h]; exact vr_far (by simp; omega)
theorem vr_drop (l : List Int) (c j : Nat) : vr (l.drop c) j = vr l (c + j) := getD_drop l c j
theorem span_shift {c : Nat} {A B : List V} (hAB : ∀ r ∈ A, Span B (fun j => r (c + j))) {v : V} (h : Span A v) : Span B (fun j => v (c + j)) := by
  induction h with
  | zero => exact .zero
  | @step v r q _ hr ih => exact ih.sub q (hAB r hr)
theorem upr_rows {c m : Nat} {ps : List Nat} {H : Mx} (hI : IsH m ps H) : Rect m (upr c H) ∧ ∀ r ∈ upr c H, pv r < c ∧ pv r < m := by
  refine ⟨fun r hr => hI.rect r (List.mem_filter.1 hr).1, fun r hr => ?_⟩
  obtain ⟨h1, h2⟩ := List.mem_filter.1 hr
  refine ⟨of_decide_eq_true h2, ?_⟩
  obtain ⟨i, hi, rfl⟩ := List.getElem_of_mem h1
  have := hI.lt i hi
  rwa [hI.pvs hi, getD_get hi] at this
def solL (c : Nat) (H : Mx) (n : Nat) (b : List Int) : List Int := redX (upr c H) (b ++ List.replicate n 0)
@[simp] theorem solL_length (c : Nat) (H : Mx) (n : Nat) (b : List Int) : (solL c H n b).length = b.length + n := by simp [solL]
def negM (l : List Int) : List Int := l.map fun z => -z
@[simp] theorem negM_length (l : List Int) : (negM l).length = l.length := by simp [negM]
theorem ech_drop : ∀ (k : Nat) {F : List (Nat × V)} {b : Nat}, Ech b F → ∃ b', Ech b' (F.drop k)
  | 0, F, b, h => ⟨b, h⟩
  | k + 1, [], b, h => ⟨b, h⟩
  | k + 1, (p, f) :: F, b, h => by obtain ⟨_, _, _, h4⟩ := h; exact ech_drop k h4
theorem span_tail {F : List (Nat × V)} {b : Nat} (hE : Ech b F) {v : V} (hv : Span (Hnf.rows F) v) : ∀ u, u ≤ F.length → (∀ i, i < u → ∀ (h : i < F.length), v (F[i]).1 = 0) → Span (Hnf.rows (F.drop u)) v
  | 0, _, _ => hv
  | u + 1, hu, hz => by
    have ih := span_tail hE hv u (by omega) (fun i hi h => hz i (by omega) h)
    obtain ⟨b', hb'⟩ := ech_drop u hE
    rw [List.drop_eq_getElem_cons (by omega)] at ih hb'
    obtain ⟨p, hp⟩ : ∃ p, p = F[u]'(by omega) := ⟨_, rfl⟩
    have h0 := hz u (by omega) (by omega)
    rw [← hp] at ih hb' h0
    obtain ⟨p1, p2⟩ := p
    exact hb'.tail ih h0
theorem krn_form {c : Nat} {M H : Mx} (hM : Rect c M) (hH : HnfOf (c + M.length) (wideM M) H) :
    ∃ qs, IsH M.length qs (krn c H) ∧ ∀ y : V, Span (latM (krn c H)) y ↔ (∀ j, j < c → cmb M y j = 0) ∧ ∀ i, M.length ≤ i → y i = 0 := by
  obtain ⟨⟨ps, hI⟩, h1, h2⟩ := hH
  obtain ⟨u, hu, e1, e2, p1, p2⟩ := hI.split c
  have hK : krn c H = (H.drop u).map (List.drop c) := by unfold krn; rw [e2]
  rw [hK]
  have hD := hI.rightD (m := M.length) rfl hu p2
  refine ⟨_, hD, fun y => ⟨fun h => ?_, fun h => ?_⟩⟩
  · induction h with
    | zero => exact ⟨fun j _ => cmb_zero M j, fun _ _ => rfl⟩
    | @step v r q _ hr ih =>
      obtain ⟨x, hx, rfl⟩ := List.mem_map.1 hr
      obtain ⟨s, hs, rfl⟩ := List.mem_map.1 hx
      obtain ⟨k, hk, rfl⟩ := List.getElem_of_mem hs
      have hk' : u + k < H.length := by simp at hk; omega
      rw [List.getElem_drop] at hx hr ⊢
      have hw := wide_span hM (h1 _ (List.mem_map.2 ⟨H[u + k], List.getElem_mem hk', rfl⟩))
      refine ⟨fun j hj => ?_, fun i hi => ?_⟩
      · rw [cmb_sub, ih.1 j hj]
        have e3 : vr (List.drop c H[u + k]) = fun i => vr H[u + k] (c + i) := by funext i; exact vr_drop _ _ _
        rw [e3, ← hw.1 j hj]
        have := hI.left (u + k) hk' j (by have := p2 (u + k) (by omega) hk'; omega)
        rw [eM_vr hk'] at this
        rw [this]; simp
      · simp only [Hnf.sub]
        rw [ih.2 i hi, vr_drop, hw.2 _ (by omega)]; simp
  · have hv : Span (latM (wideM M)) (fun j => if j < c then 0 else y (j - c)) := by
      refine span_wide hM (fun j hj => ?_) fun j hj => ?_
      · rw [if_pos hj]
        have e3 : (fun i => if c + i < c then (0 : Int) else y (c + i - c)) = y := by funext i; rw [if_neg (by omega), Nat.add_sub_cancel_left]
        rw [e3, h.1 j hj]
      · rw [if_neg (by omega)]; exact h.2 _ (by omega)
    have hH2 := hv.trans h2
    rw [← wps_rows hI.len] at hH2
    have ht := span_tail hI.ech hH2 u (by simp [wps, hI.len]; omega) (fun i hi h => by
      have hpi : ((wps ps H)[i]'h).1 = ps.getD i 0 := by
        have hil : i < ps.length := by rw [hI.len]; omega
        rw [getD_get hil]; simp [wps]
      rw [hpi, if_pos (p1 i hi)])
    have e3 : Hnf.rows ((wps ps H).drop u) = latM (H.drop u) := by
      have := wps_rows hI.len
      unfold Hnf.rows at this ⊢
      rw [List.map_drop, this]; simp [latM, List.map_drop]
    rw [e3] at ht
    have hsh := span_shift (c := c) (B := latM ((H.drop u).map (List.drop c))) (fun r hr => by
      obtain ⟨s, hs, rfl⟩ := List.mem_map.1 hr
      refine .mem (List.mem_map.2 ⟨s.drop c, List.mem_map.2 ⟨s, hs, rfl⟩, ?_⟩)
      funext j; exact vr_drop _ _ _) ht
    refine span_of_eq hsh fun j => ?_
    rw [if_neg (by omega), Nat.add_sub_cancel_left]
def solX (c : Nat) (H : Mx) (n : Nat) (b : List Int) : List Int := redX (krn c H) (negM ((solL c H n b).drop c))
theorem solX_length {c n : Nat} {H : Mx} {b : List Int} (hb : b.length = c) : (solX c H n b).length = n := by
  unfold solX
  rw [redX_length, negM_length, List.length_drop, solL_length, hb]; omega
end Go.Proofs.YtokjolmpdfmnbaaGreatDoor
namespace Go.Proofs.YtokjolmpdfmnbaaGreatDoor
@[irreducible] def dv (c : UInt8) : Nat := c.toNat - 48
def valB (n : Nat) (l : List UInt8) : Nat := l.foldl (fun n c => 10 * n + dv c) n
def isDig (c : UInt8) : Prop := 48 ≤ c.toNat ∧ c.toNat ≤ 57
theorem dv_eq {c : UInt8} (h : isDig c) : dv c = c.toNat - 48 ∧ c.toNat = 48 + dv c ∧ dv c < 10 := by
  unfold dv; unfold isDig at h; omega
theorem valB_nil (n : Nat) : valB n [] = n := rfl
theorem valB_cons (n : Nat) (c : UInt8) (l : List UInt8) : valB n (c :: l) = valB (10 * n + dv c) l := by unfold valB; rw [List.foldl_cons]
theorem valB_append (n : Nat) (a b : List UInt8) : valB n (a ++ b) = valB (valB n a) b := by
  unfold valB; rw [List.foldl_append]
theorem valB_acc (a : List UInt8) : ∀ n, valB n a = n * 10 ^ a.length + valB 0 a := by
  induction a with
  | nil => intro n; rw [valB_nil, valB_nil]; simp
  | cons c a ih =>
    intro n
    generalize hd : dv c = d
    rw [valB_cons, valB_cons, hd, List.length_cons, Nat.pow_succ, ih (10 * n + d), Nat.mul_zero, Nat.zero_add, ih d]
    generalize valB 0 a = x
    generalize 10 ^ a.length = y
    rw [Nat.add_mul, Nat.mul_comm 10 n, Nat.mul_assoc, Nat.mul_comm 10, Nat.add_assoc]
theorem toNat_ofNat_dig {k : Nat} (h : k < 10) : (UInt8.ofNat (48 + k)).toNat = 48 + k := by
  rw [UInt8.toNat_ofNat']; exact Nat.mod_eq_of_lt (by omega)
theorem valB_dec (u : Nat) : valB 0 (Lib.decDigits u) = u := by
  induction u using Nat.strongRecOn with
  | _ u ih =>
    rw [Lib.decDigits]
    by_cases h : u < 10
    · rw [dif_pos h]; rw [valB_cons, valB_nil]; unfold dv; rw [toNat_ofNat_dig h]; omega
    · rw [dif_neg h, valB_append, ih (u / 10) (by omega)]
      rw [valB_cons, valB_nil]; unfold dv; rw [toNat_ofNat_dig (Nat.mod_lt u (by omega : 0 < 10))]
      omega
theorem dec_inj {u v : Nat} (h : Lib.decDigits u = Lib.decDigits v) : u = v := by
  rw [← valB_dec u, ← valB_dec v, h]
theorem dec_dig (u : Nat) : ∀ c ∈ Lib.decDigits u, isDig c := by
  induction u using Nat.strongRecOn with
  | _ u ih =>
    rw [Lib.decDigits]
    by_cases h : u < 10
    · rw [dif_pos h]; intro c hc; rw [List.mem_singleton] at hc; subst hc; unfold isDig; rw [toNat_ofNat_dig h]; omega
    · rw [dif_neg h]; intro c hc
      rcases List.mem_append.1 hc with hc | hc
      · exact ih _ (by omega) c hc
      · rw [List.mem_singleton] at hc; subst hc; unfold isDig; rw [toNat_ofNat_dig (Nat.mod_lt u (by omega))]; omega
theorem dec_zero : Lib.decDigits 0 = [48] := by rw [Lib.decDigits]; rfl
theorem dec_ne_nil (u : Nat) : Lib.decDigits u ≠ [] := by
  intro h; have := congrArg List.length h; rw [Lib.decDigits_length] at this; have := Lib.nDigits_pos u; simp at *; omega
theorem dec_head (u : Nat) : ∃ c t, Lib.decDigits u = c :: t ∧ isDig c ∧ (u ≠ 0 → c.toNat ≠ 48) := by
  induction u using Nat.strongRecOn with
  | _ u ih =>
    rw [Lib.decDigits]
    by_cases h : u < 10
    · rw [dif_pos h]; refine ⟨_, _, rfl, ?_, ?_⟩
      · unfold isDig; rw [toNat_ofNat_dig h]; omega
      · intro hu; rw [toNat_ofNat_dig h]; omega
    · rw [dif_neg h]
      obtain ⟨c, t, e, hd, hz⟩ := ih (u / 10) (by omega)
      exact ⟨c, t ++ _, by rw [e]; rfl, hd, fun _ => hz (by omega)⟩
theorem dec_eq_zero (u : Nat) : (Lib.decDigits u == [48]) = decide (u = 0) := by
  by_cases h : u = 0
  · subst h; rw [dec_zero]; rfl
  · rw [decide_eq_false h]
    obtain ⟨c, t, e, _, hz⟩ := dec_head u
    rw [beq_eq_false_iff_ne, e]
    intro hc
    injection hc with hc _
    exact hz h (by rw [hc]; rfl)
def nd (z : Int) : Nat := Lib.nDigits z.natAbs
theorem itoa_neg {z : Int} (h : z < 0) : Lib.itoa z = 45 :: Lib.decDigits z.natAbs := by unfold Lib.itoa; rw [if_pos h]
theorem itoa_pos {z : Int} (h : 0 ≤ z) : Lib.itoa z = Lib.decDigits z.natAbs := by
  unfold Lib.itoa; rw [if_neg (by omega)]; congr 1; omega
theorem itoa_nat (u : Nat) : Lib.itoa (u : Int) = Lib.decDigits u := itoa_pos (by omega)
theorem itoa_zero : Lib.itoa 0 = [48] := by rw [itoa_pos (by omega)]; exact dec_zero
theorem itoa_length (z : Int) : (Lib.itoa z).length = nd z + (if z < 0 then 1 else 0) := by
  by_cases h : z < 0
  · rw [itoa_neg h, if_pos h, List.length_cons, Lib.decDigits_length]; rfl
  · rw [itoa_pos (by omega), if_neg h, Lib.decDigits_length]; rfl
theorem itoa_eq_zero (z : Int) : (Lib.itoa z == [48]) = decide (z = 0) := by
  by_cases h : z < 0
  · rw [itoa_neg h, decide_eq_false (by omega), beq_eq_false_iff_ne]
    intro hc; injection hc with hc _; cases hc
  · rw [itoa_pos (by omega), dec_eq_zero]
    by_cases hz : z = 0
    · simp [hz]
    · rw [decide_eq_false hz, decide_eq_false (by omega)]
theorem itoa_inj {a b : Int} (h : Lib.itoa a = Lib.itoa b) : a = b := by
  by_cases ha : a < 0 <;> by_cases hb : b < 0
  · rw [itoa_neg ha, itoa_neg hb] at h; injection h with _ h; have := dec_inj h; omega
  · rw [itoa_neg ha, itoa_pos (by omega)] at h
    obtain ⟨c, t, e, hd, _⟩ := dec_head b.natAbs
    rw [e] at h; injection h with h _; subst h; exact absurd hd.1 (by decide)
  · rw [itoa_neg hb, itoa_pos (by omega)] at h
    obtain ⟨c, t, e, hd, _⟩ := dec_head a.natAbs
    rw [e] at h; injection h with h _; subst h; exact absurd hd.1 (by decide)
  · rw [itoa_pos (by omega), itoa_pos (by omega)] at h; have := dec_inj h; omega
theorem nDigits_le {u k : Nat} (h : u < 10 ^ k) (hk : 1 ≤ k) : Lib.nDigits u ≤ k := by
  induction k generalizing u with
  | zero => omega
  | succ k ih =>
    by_cases hu : u < 10
    · rw [Lib.nDigits_small hu]; omega
    · rw [Lib.nDigits_big hu]
      rw [Nat.pow_succ] at h
      have hk : 1 ≤ k := by
        rcases Nat.eq_zero_or_pos k with h0 | h0
        · subst h0; simp at h; omega
        · exact h0
      have := ih (u := u / 10) (by omega) hk
      omega
theorem lt_pow_of_nd {u k : Nat} (h : Lib.nDigits u ≤ k) : u < 10 ^ k :=
  Nat.lt_of_lt_of_le (Lib.lt_pow_nDigits u) (Nat.pow_le_pow_right (by omega) h)
theorem nDigits_mono {u v : Nat} (h : u ≤ v) : Lib.nDigits u ≤ Lib.nDigits v :=
  nDigits_le (Nat.lt_of_le_of_lt h (Lib.lt_pow_nDigits v)) (Lib.nDigits_pos v)
theorem nd_neg (z : Int) : nd (-z) = nd z := by unfold nd; rw [Int.natAbs_neg]
theorem nd_pos (z : Int) : 1 ≤ nd z := Lib.nDigits_pos _
theorem nd_add (a b : Int) : nd (a + b) ≤ max (nd a) (nd b) + 1 := by
  unfold nd
  refine nDigits_le ?_ (by omega)
  have h1 := lt_pow_of_nd (Nat.le_max_left (Lib.nDigits a.natAbs) (Lib.nDigits b.natAbs))
  have h2 := lt_pow_of_nd (Nat.le_max_right (Lib.nDigits a.natAbs) (Lib.nDigits b.natAbs))
  rw [Nat.pow_succ]
  have := Int.natAbs_add_le a b
  omega
theorem nd_mul (a b : Int) : nd (a * b) ≤ nd a + nd b := by
  unfold nd
  refine nDigits_le ?_ (by have := Lib.nDigits_pos a.natAbs; omega)
  rw [Int.natAbs_mul, Nat.pow_add]
  exact Nat.mul_lt_mul'' (Lib.lt_pow_nDigits _) (Lib.lt_pow_nDigits _)
end Go.Proofs.YtokjolmpdfmnbaaGreatDoor
namespace Go.Proofs.YtokjolmpdfmnbaaGreatDoor
open Go.RowKit
abbrev S (l : List UInt8) : Value := .string ⟨l.toArray⟩
abbrev I (z : Int) : Value := S (Lib.itoa z)
abbrev D (u : Nat) : Value := S (Lib.decDigits u)
def LIM : Nat := 1000000000000
def Ext (w w' : World) : Prop := Below w.heap.size w w'
theorem Ext.refl (w : World) : Ext w w := Below.refl _ _
theorem Ext.trans {a b c : World} (h : Ext a b) (k : Ext b c) : Ext a c := Below.trans h (Below.mono k h.size)
theorem Ext.drewN {a b : World} (h : Ext a b) (n : Nat) : Ext a (b.drewN n) := below_drewN h n
theorem Ext.drew {a b : World} (h : Ext a b) : Ext a b.drew := Below.drew h
theorem Ext.alloc {a b : World} (h : Ext a b) (o : Obj) : Ext a (b.alloc o) := Below.alloc h h.size o
theorem Ext.setCell {a b : World} (h : Ext a b) {p : Addr} (hp : a.heap.size ≤ p.block) (v : Value) : Ext a (b.setCell p v) := Below.setCell h hp v
theorem Ext.size {a b : World} (h : Ext a b) : a.heap.size ≤ b.heap.size := Below.size h
theorem Ext.tape {a b : World} (h : Ext a b) : b.tape = a.tape := Below.tape h
theorem Ext.block {a b : World} (h : Ext a b) (k : Nat) (hk : k < a.heap.size) : b.heap[k]? = a.heap[k]? := Below.block h k hk
theorem Ext.cell {a b : World} (h : Ext a b) {p : Addr} {v : Value} (hp : a.cell? p = some v) : b.cell? p = some v := by
  rw [Below.cell h (World.block_lt_of_cell? _ _ hp)]; exact hp
theorem Ext.frozen {a b : World} (h : Ext a b) {p : Addr} (hp : p.block < a.heap.size) : b.frozen? p = a.frozen? p := Below.frozen h hp
theorem Ext.mk' {a b : World} (h : Below a.heap.size a b) : Ext a b := h
theorem ret_val {a b : Value} (h : a = b) : Ending.returned a = .returned b := by rw [h]
theorem S_extract1 (c : UInt8) (l : List UInt8) (n : Nat) (h : n = l.length + 1) : Value.string ((⟨(c :: l).toArray⟩ : ByteArray).extract 1 n) = S l := by
  subst h
  congr 1
  rw [ByteArray.extract_mk]
  congr 1
  simp
end Go.Proofs.YtokjolmpdfmnbaaGreatDoor
namespace Go.Proofs.YtokjolmpdfmnbaaGreatDoor
open Go.RowKit
theorem split_neg {z : Int} (hz : z < 0) (_hl : nd z ≤ LIM) (w : World) : Calls Tryz.prog 138 #[I z] w fun e w' => e = .returned (.tuple #[.bool true, D z.natAbs]) ∧ Ext w w' := by
  rw [show I z = S (45 :: Lib.decDigits z.natAbs) by unfold I; rw [itoa_neg hz]]
  have hl : (Lib.decDigits z.natAbs).length ≤ 1000000000000 := by rw [Lib.decDigits_length]; exact _hl
  clear _hl
  rw [show D z.natAbs = S (Lib.decDigits z.natAbs) from rfl]
  generalize Lib.decDigits z.natAbs = l at *
  go_enter Tryz.func138, Tryz.ntmps138
  go_wp2
  go_quiet (fail)
  go_wp2
  go_ret2
  have E := S_extract1 45 l _ rfl
  exact ⟨ret_val (congrArg (fun v => Value.tuple #[.bool true, v]) E), (Ext.refl _).drewN _⟩
theorem split_pos {z : Int} (hz : 0 ≤ z) (w : World) : Calls Tryz.prog 138 #[I z] w fun e w' => e = .returned (.tuple #[.bool false, D z.natAbs]) ∧ Ext w w' := by
  rw [show I z = S (Lib.decDigits z.natAbs) by unfold I; rw [itoa_pos hz]]
  obtain ⟨c, l, e, hd, _⟩ := dec_head z.natAbs
  unfold D; rw [e]; clear e
  have h1 : ((c.toNat : Int) == 45) = false := beq_eq_false_iff_ne.2 (by have := hd.1; omega)
  have h2 : (((⟨(c :: l).toArray⟩ : ByteArray)[0]'(by show 0 < (c :: l).toArray.size; simp)).toNat : Int) = c.toNat := rfl
  clear hz hd
  go_enter Tryz.func138, Tryz.ntmps138
  go_wp2
  go_ret2
  exact ⟨rfl, Ext.refl _⟩
theorem join_pos (u : Nat) (w : World) : Calls Tryz.prog 144 #[.bool false, D u] w fun e w' => e = .returned (I (u : Int)) ∧ Ext w w' := by
  rw [show I (u : Int) = D u by unfold I D; rw [itoa_nat]]
  unfold D
  generalize Lib.decDigits u = l
  go_enter Tryz.func144, Tryz.ntmps144
  go_wp2
  go_ret
  exact ⟨rfl, Ext.refl _⟩
theorem join_neg (u : Nat) (hl : Lib.nDigits u ≤ LIM) (w : World) : Calls Tryz.prog 144 #[.bool true, D u] w fun e w' => e = .returned (I (-(u : Int))) ∧ Ext w w' := by
  have hl' : (Lib.decDigits u).length ≤ 1000000000000 := by rw [Lib.decDigits_length]; exact hl
  clear hl
  by_cases hu : u = 0
  · subst hu
    unfold D I; rw [dec_zero, show (-((0 : Nat) : Int)) = 0 from rfl, itoa_zero]
    go_enter Tryz.func144, Tryz.ntmps144
    go_wp2
    go_ret
    exact ⟨rfl, Ext.refl _⟩
  · have hz : (Lib.decDigits u == [48]) = false := by rw [dec_eq_zero, decide_eq_false hu]
    have hr : I (-(u : Int)) = S (45 :: Lib.decDigits u) := by unfold I; rw [itoa_neg (by omega)]; congr 2; simp
    rw [hr]; clear hr hu
    unfold D
    generalize Lib.decDigits u = l at *
    go_enter Tryz.func144, Tryz.ntmps144
    go_wp2
    go_ret
    exact ⟨ret_val (by simp only [S]; congr 1), Ext.refl _⟩
theorem join_any (b : Bool) (u : Nat) (hl : Lib.nDigits u ≤ LIM) (w : World) : Calls Tryz.prog 144 #[.bool b, D u] w fun e w' => e = .returned (I (if b then -(u : Int) else u)) ∧ Ext w w' := by
  cases b
  · exact join_pos u w
  · exact join_neg u hl w
theorem Neg_any {z : Int} (hl : nd z ≤ LIM) (w : World) : Calls Tryz.prog 120 #[I z] w fun e w' => e = .returned (I (-z)) ∧ Ext w w' := by
  by_cases hz : z < 0
  · have H := Lib.hid (show -z = (z.natAbs : Int) by omega)
    have H1 := Lib.hid (split_neg hz hl)
    clear hl hz
    go_enter Tryz.func120, Tryz.ntmps120
    go_wp2_with (first
      | (go_at_call 138; refine (H1.out _).mono ?_; rintro e w1 ⟨rfl, hb1⟩)
      | (go_at_call 144; refine (join_pos _ _).mono ?_; rintro e w2 ⟨rfl, hb2⟩))
    go_ret
    exact ⟨ret_val (by rw [H.out]; rfl), hb1.trans hb2⟩
  · have H := Lib.hid (show -z = -(z.natAbs : Int) by omega)
    have H1 := Lib.hid (split_pos (z := z) (by omega))
    have H2 := Lib.hid (show Lib.nDigits z.natAbs ≤ LIM from hl)
    clear hl hz
    go_enter Tryz.func120, Tryz.ntmps120
    go_wp2_with (first
      | (go_at_call 138; refine (H1.out _).mono ?_; rintro e w1 ⟨rfl, hb1⟩)
      | (go_at_call 144; refine (join_neg _ H2.out _).mono ?_; rintro e w2 ⟨rfl, hb2⟩))
    go_ret
    exact ⟨ret_val (by rw [H.out]; rfl), hb1.trans hb2⟩
theorem Abs_any {z : Int} (hl : nd z ≤ LIM) (w : World) : Calls Tryz.prog 91 #[I z] w fun e w' => e = .returned (I (z.natAbs : Int)) ∧ Ext w w' := by
  have H1 : Hid (∀ w, ∃ b, Calls Tryz.prog 138 #[I z] w fun e w' => e = .returned (.tuple #[.bool b, D z.natAbs]) ∧ Ext w w') := by
    intro w
    by_cases hz : z < 0
    · exact ⟨true, split_neg hz hl w⟩
    · exact ⟨false, split_pos (by omega) w⟩
  have H := Lib.hid (show I (z.natAbs : Int) = D z.natAbs by unfold I D; rw [itoa_nat])
  clear hl
  obtain ⟨b, hc⟩ := H1.out w
  have H2 := Lib.hid hc
  clear H1 hc
  go_enter Tryz.func91, Tryz.ntmps91
  go_wp2_with (first
    | (go_at_call 138; refine H2.out.mono ?_; rintro e w1 ⟨rfl, hb1⟩))
  go_ret
  exact ⟨ret_val (by rw [H.out]; rfl), hb1⟩
theorem Sign_any (z : Int) (w : World) : Calls Tryz.prog 98 #[I z] w fun e w' => e = .returned (.int .i64 z.sign) ∧ Ext w w' := by
  rcases Int.lt_trichotomy z 0 with h | h | h
  · rw [show I z = S (45 :: Lib.decDigits z.natAbs) by unfold I; rw [itoa_neg h], Int.sign_eq_neg_one_of_neg h]
    clear h
    generalize Lib.decDigits z.natAbs = l
    have h2 : (((⟨(45 :: l).toArray⟩ : ByteArray)[0]'(by show 0 < (45 :: l).toArray.size; simp)).toNat : Int) = 45 := rfl
    go_enter Tryz.func98, Tryz.ntmps98
    go_wp2
    go_ret
    exact ⟨rfl, Ext.refl _⟩
  · subst h
    unfold I; rw [itoa_zero]
    go_enter Tryz.func98, Tryz.ntmps98
    go_wp2
    go_ret
    exact ⟨rfl, Ext.refl _⟩
  · rw [show I z = S (Lib.decDigits z.natAbs) by unfold I; rw [itoa_pos (by omega)], Int.sign_eq_one_of_pos h]
    have hz : (Lib.decDigits z.natAbs == [48]) = false := by rw [dec_eq_zero, decide_eq_false (by omega)]
    obtain ⟨c, l, e, hd, _⟩ := dec_head z.natAbs
    rw [e] at hz
    rw [e]; clear e h
    have h1 : ((c.toNat : Int) == 45) = false := beq_eq_false_iff_ne.2 (by have := hd.1; omega)
    have h2 : (((⟨(c :: l).toArray⟩ : ByteArray)[0]'(by show 0 < (c :: l).toArray.size; simp)).toNat : Int) = c.toNat := rfl
    clear hd
    go_enter Tryz.func98, Tryz.ntmps98
    go_wp2
    go_ret
    exact ⟨rfl, Ext.refl _⟩
end Go.Proofs.YtokjolmpdfmnbaaGreatDoor
namespace Go.Proofs.YtokjolmpdfmnbaaGreatDoor
open Go.RowKit
structure Sl (w : World) (ga : Option Addr) (gb go : Nat) (xs : List Value) : Prop where
  addr : 0 < xs.length → ga = some ⟨gb, go, none⟩
  cell : ∀ i x, xs[i]? = some x → w.cell? ⟨gb, go + i, none⟩ = some x
theorem Sl.ext {w w' : World} {ga : Option Addr} {gb go : Nat} {xs : List Value} (h : Sl w ga gb go xs) (he : Ext w w') : Sl w' ga gb go xs :=
  ⟨h.addr, fun i x hx => he.cell (h.cell i x hx)⟩
theorem Sl.nil (w : World) (ga : Option Addr) (gb go : Nat) : Sl w ga gb go [] := ⟨fun h => by simp at h, fun i x h => by simp at h⟩
theorem Sl.take {w : World} {ga : Option Addr} {gb go : Nat} {xs : List Value} (h : Sl w ga gb go xs) (n : Nat) : Sl w ga gb go (xs.take n) :=
  ⟨fun h' => h.addr (by simp at h'; omega), fun i x hx => h.cell i x (by
    rw [List.getElem?_take] at hx; split at hx
    · exact hx
    · cases hx)⟩
theorem Sl.lt {w : World} {ga : Option Addr} {gb go : Nat} {xs : List Value} (h : Sl w ga gb go xs) (hx : 0 < xs.length) : gb < w.heap.size := by
  have := h.cell 0 xs[0] (List.getElem?_eq_getElem hx)
  exact World.block_lt_of_cell? _ _ this
def us (p : List Nat) : List Value := p.map fun (d : Nat) => Value.int .u64 (d : Int)
def is (p : List Int) : List Value := p.map fun (d : Int) => Value.int .i64 d
@[simp] theorem us_length (l : List Nat) : (us l).length = l.length := by simp [us]
@[simp] theorem is_length (l : List Int) : (is l).length = l.length := by simp [is]
theorem us_get {p : List Nat} {i : Nat} (h : i < p.length) : (us p)[i]? = some (.int .u64 (p[i] : Nat)) := by
  simp [us, List.getElem?_map, List.getElem?_eq_getElem h]
theorem is_get {p : List Int} {i : Nat} (h : i < p.length) : (is p)[i]? = some (.int .i64 p[i]) := by
  simp [is, List.getElem?_map, List.getElem?_eq_getElem h]
end Go.Proofs.YtokjolmpdfmnbaaGreatDoor
