/- Part 14 of the proof of the claim: contracts of the functions that it reaches, and plain laws; no condition. -/
import Derived.Test.YtkjnjmihfonilaaGreatDoorV12
import Derived.Test.YtkjnjmihfonilaaGreatDoorV13
import Derived.Test.YtkjnjmihfonilaaGreatDoorV11
namespace Go.Proofs.YtkjnjmihfonilaaGreatDoor
open Hnf (V Span Ech Red)
def stepQ (r x : List Int) : Int := (x.getD (pv r) 0).fdiv (r.getD (pv r) 0)
def redX : Mx → List Int → List Int
  | [], x => x
  | r :: F, x => redX F (subK (stepQ r x) x r)
def redQ : Mx → List Int → List Int
  | [], _ => []
  | r :: F, x => stepQ r x :: redQ F (subK (stepQ r x) x r)
theorem redX_snoc (r : List Int) : ∀ (F : Mx) (x : List Int), redX (F ++ [r]) x = subK (stepQ r (redX F x)) (redX F x) r
  | [], x => rfl
  | f :: F, x => by rw [List.cons_append, redX, redX, redX_snoc r F]
@[simp] theorem redX_length : ∀ (F : Mx) (x : List Int), (redX F x).length = x.length
  | [], x => rfl
  | f :: F, x => by rw [redX, redX_length F]; simp
@[simp] theorem redQ_length : ∀ (F : Mx) (x : List Int), (redQ F x).length = F.length
  | [], x => rfl
  | f :: F, x => by rw [redQ, List.length_cons, redQ_length F]; rfl
theorem redX_take {F : Mx} {i : Nat} (h : i < F.length) (x : List Int) : redX (F.take (i + 1)) x = subK (stepQ (F.getD i []) (redX (F.take i) x)) (redX (F.take i) x) (F.getD i []) := by
  rw [take_snocM h, redX_snoc, getD_get h]
theorem stepQ_abs {r x : List Int} (h : r.getD (pv r) 0 ≠ 0) {B : Nat} (hB : 0 < B) (hx : ∀ z ∈ x, z.natAbs < B) : (stepQ r x).natAbs < B := by
  refine Nat.lt_of_le_of_lt (fdiv_abs _ h) ?_
  rw [List.getD_eq_getElem?_getD]
  rcases Nat.lt_or_ge (pv r) x.length with hl | hl
  · rw [List.getElem?_eq_getElem hl]; exact hx _ (List.getElem_mem hl)
  · rw [List.getElem?_eq_none hl]; simpa using hB
theorem redX_span {n : Nat} : ∀ (F : Mx) (x : List Int), Rect n F → x.length = n → Span (latM F) (Hnf.sub (vr x) 1 (vr (redX F x)))
  | [], x, _, _ => by
    have e : Hnf.sub (vr x) 1 (vr (redX [] x)) = fun _ => 0 := by funext j; simp [Hnf.sub, redX]
    rw [e]; exact .zero
  | r :: F, x, hF, hx => by
    have hr : r.length = n := hF r (by simp)
    have ih := redX_span F (subK (stepQ r x) x r) (fun s hs => hF s (by simp [hs])) (by simp [hx])
    have h2 : Span (latM (r :: F)) (Hnf.sub (vr (subK (stepQ r x) x r)) 1 (vr (redX F (subK (stepQ r x) x r)))) := ih.mono fun v hv => by
      simp only [latM, List.map_cons]; exact List.mem_cons_of_mem _ hv
    have h3 := h2.step (-(stepQ r x)) (r := vr r) (by simp [latM])
    refine span_of_eq h3 fun j => ?_
    rw [redX, vr_sub _ (by omega)]
    simp only [Hnf.sub]; grind
theorem redX_keep {n : Nat} : ∀ (F : Mx) (x : List Int) (j : Nat), Rect n F → x.length = n → (∀ r ∈ F, r.getD j 0 = 0) → (redX F x).getD j 0 = x.getD j 0
  | [], x, j, _, _, _ => rfl
  | r :: F, x, j, hF, hx, hz => by
    have hr : r.length = n := hF r (by simp)
    rw [redX, redX_keep F _ j (fun s hs => hF s (by simp [hs])) (by simp [hx]) (fun s hs => hz s (by simp [hs])), subK_getD _ _ _ _ (by omega), hz r (by simp)]
    simp
theorem redX_range {n : Nat} {ps : List Nat} {F : Mx} (h : IsH n ps F) {x : List Int} (hx : x.length = n) (i : Nat) (hi : i < F.length) : 0 ≤ (redX F x).getD (ps.getD i 0) 0 ∧ (redX F x).getD (ps.getD i 0) 0 < eM F i (ps.getD i 0) := by
  have e : redX F x = redX (F.drop (i + 1)) (redX (F.take (i + 1)) x) := by
    have : ∀ (A B : Mx) (y : List Int), redX (A ++ B) y = redX B (redX A y) := by
      intro A
      induction A with
      | nil => intro B y; rfl
      | cons a A ih => intro B y; rw [List.cons_append, redX, redX, ih]
    rw [← this, List.take_append_drop]
  have hl1 : (redX (F.take (i + 1)) x).length = n := by simp [hx]
  have hFi : (F.getD i []).length = n := by rw [getD_get hi]; exact h.rect _ (List.getElem_mem hi)
  rw [e, redX_keep (n := n) _ _ _ (fun s hs => h.rect s (List.mem_of_mem_drop hs)) hl1 (fun r hr => ?_), redX_take hi, subK_getD _ _ _ _ (by rw [hFi, redX_length, hx]; exact Nat.le_refl _)]
  · have hpi : ps.getD i 0 = pv (F.getD i []) := by rw [isH_pv h, getD_map pv F i hi 0 []]
    rw [hpi]
    have hpos := h.pos i hi
    rw [hpi] at hpos
    exact fdr_pos hpos
  · obtain ⟨t, ht, rfl⟩ := List.getElem_of_mem hr
    rw [List.getElem_drop]
    have ht' : i + 1 + t < F.length := by simp at ht; omega
    have := h.left (i + 1 + t) ht' (ps.getD i 0) (h.inc i (i + 1 + t) (by omega) ht')
    unfold eM at this
    rw [getD_get ht'] at this
    exact this
def zeroL (l : List Int) : Prop := ∀ z ∈ l, z = 0
theorem zero_vr {l : List Int} : zeroL l ↔ ∀ j, vr l j = 0 := by
  constructor
  · intro h j
    show l.getD j 0 = 0
    rw [List.getD_eq_getElem?_getD]
    rcases Nat.lt_or_ge j l.length with hj | hj
    · rw [List.getElem?_eq_getElem hj]; exact h _ (List.getElem_mem hj)
    · rw [List.getElem?_eq_none hj]; rfl
  · intro h z hz
    obtain ⟨j, hj, rfl⟩ := List.getElem_of_mem hz
    have := h j
    show l[j] = 0
    rw [← getD_get hj 0]; exact this
theorem redX_zero {n : Nat} {ps : List Nat} {F : Mx} (h : IsH n ps F) {x : List Int} (hx : x.length = n) : zeroL (redX F x) ↔ Span (latM F) (vr x) := by
  have hs := redX_span F x h.rect hx
  rw [zero_vr]
  constructor
  · intro hz
    refine span_of_eq hs fun j => ?_
    simp [Hnf.sub, hz j]
  · intro hv
    have hr : Span (latM F) (vr (redX F x)) := by
      refine span_of_eq (hv.sub 1 hs) fun j => ?_
      simp only [Hnf.sub]; omega
    rcases Hnf.first (vr (redX F x)) with h0 | ⟨j, hj, hz⟩
    · exact h0
    · exfalso
      rw [← wps_rows h.len] at hr
      obtain ⟨g, hg, e, hd⟩ := h.ech.lead hr hj hz
      obtain ⟨i, hi, rfl⟩ := wps_mem h.len hg
      simp only at e hd
      subst e
      have hrg := redX_range h hx i hi
      obtain ⟨c, hc⟩ := hd
      have hpos := h.pos i hi
      have hc' : (redX F x).getD (ps.getD i 0) 0 = eM F i (ps.getD i 0) * c := hc
      have hj' : (redX F x).getD (ps.getD i 0) 0 ≠ 0 := hj
      have hlt : (eM F i (ps.getD i 0) * c).natAbs < (eM F i (ps.getD i 0)).natAbs := by rw [← hc']; omega
      rw [Int.natAbs_mul] at hlt
      have hc0 : c.natAbs = 0 := by
        rcases Nat.eq_zero_or_pos c.natAbs with h | h
        · exact h
        · have := Nat.mul_le_mul_left (eM F i (ps.getD i 0)).natAbs h; omega
      have hcz : c = 0 := by omega
      rw [hcz, Int.mul_zero] at hc'
      exact hj' hc'
end Go.Proofs.YtkjnjmihfonilaaGreatDoor
namespace Go.Proofs.YtkjnjmihfonilaaGreatDoor
open Hnf (V Span Ech Red)
def ln1 (M : Mx) : List Ln := M.map fun r => (r, [])
@[simp] theorem ln1_length (M : Mx) : (ln1 M).length = M.length := by simp [ln1]
theorem ln1_dim {n : Nat} {M : Mx} (h : Rect n M) : Dim n 0 (ln1 M) := by
  intro l hl
  obtain ⟨r, hr, rfl⟩ := List.mem_map.1 hl
  exact ⟨h r hr, rfl⟩
theorem ln1_lat (M : Mx) : latL (ln1 M) = latM M := by simp [latL, latM, ln1, Function.comp_def]
theorem form_of1 {n d : Nat} {ps : List Nat} {M : Mx} {ls : List Ln} (hM : Rect n M) (ho : Ops 0 (ln1 M) ls) (h : FormTo n d ps ls) : HnfOf n M (fRows d ls) := by
  have hd0 := ln1_dim hM
  have hd := hd0.ops ho
  have hl := ho.lat hd0
  rw [ln1_lat] at hl
  have hf := h.lat hd
  exact ⟨⟨ps, h.isH hd⟩, fun v hv => hl.1 v (hf.1 v hv), fun v hv => (hl.2 v hv).trans hf.2⟩
theorem FormTo.full {c c' d : Nat} {ps : List Nat} {ls : List Ln} (h : FormTo c d ps ls) (hd : d = ls.length) (hc : c ≤ c') : FormTo c' d ps ls :=
  ⟨h.len, h.le, fun i hi => by have := h.lt i hi; omega, h.inc, h.left, h.pos, h.red, fun i h1 h2 => by omega⟩
def sumZ (f : Nat → Int) : Nat → Int
  | 0 => 0
  | n + 1 => sumZ f n + f n
theorem sumZ_congr {f g : Nat → Int} : ∀ {n}, (∀ i, i < n → f i = g i) → sumZ f n = sumZ g n
  | 0, _ => rfl
  | n + 1, h => by rw [sumZ, sumZ, sumZ_congr (fun i hi => h i (by omega)), h n (by omega)]
theorem sumZ_zero {f : Nat → Int} : ∀ {n}, (∀ i, i < n → f i = 0) → sumZ f n = 0
  | 0, _ => rfl
  | n + 1, h => by rw [sumZ, sumZ_zero (fun i hi => h i (by omega)), h n (by omega)]; rfl
theorem sumZ_sub (f g : Nat → Int) : ∀ n, sumZ (fun i => f i - g i) n = sumZ f n - sumZ g n
  | 0 => rfl
  | n + 1 => by rw [sumZ, sumZ, sumZ, sumZ_sub f g n]; omega
theorem sumZ_mul (q : Int) (f : Nat → Int) : ∀ n, sumZ (fun i => q * f i) n = q * sumZ f n
  | 0 => by simp [sumZ]
  | n + 1 => by rw [sumZ, sumZ, sumZ_mul q f n, Int.mul_add]
theorem sumZ_one {f : Nat → Int} {k : Nat} : ∀ {n}, k < n → (∀ i, i < n → i ≠ k → f i = 0) → sumZ f n = f k
  | 0, h, _ => by omega
  | n + 1, h, hz => by
    rw [sumZ]
    by_cases e : k = n
    · subst e; rw [sumZ_zero (fun i hi => hz i (by omega) (by omega))]; omega
    · rw [sumZ_one (n := n) (by omega) (fun i hi => hz i (by omega)), hz n (by omega) (Ne.symm e)]; omega
def cmb (M : Mx) (y : V) : V := fun j => sumZ (fun i => y i * eM M i j) M.length
theorem cmb_sub (M : Mx) (y z : V) (q : Int) (j : Nat) : cmb M (Hnf.sub y q z) j = cmb M y j - q * cmb M z j := by
  unfold cmb
  rw [← sumZ_mul, ← sumZ_sub]
  exact sumZ_congr fun i _ => by simp only [Hnf.sub]; grind
theorem cmb_zero (M : Mx) (j : Nat) : cmb M (fun _ => 0) j = 0 := sumZ_zero fun i _ => by simp
def wideM (M : Mx) : Mx := M.mapIdx fun i r => r ++ unitR M.length i
@[simp] theorem wideM_length (M : Mx) : (wideM M).length = M.length := by simp [wideM]
theorem wideM_get {M : Mx} {i : Nat} (h : i < M.length) : (wideM M)[i]'(by simpa using h) = M[i] ++ unitR M.length i := by simp [wideM]
theorem wideM_rect {c : Nat} {M : Mx} (h : Rect c M) : Rect (c + M.length) (wideM M) := by
  intro r hr
  obtain ⟨i, hi, rfl⟩ := List.getElem_of_mem hr
  rw [wideM_get (by simpa using hi), List.length_append, h _ (List.getElem_mem _)]
  simp [unitR]
theorem unitR_getD (m i j : Nat) : (unitR m i).getD j 0 = if j = i ∧ i < m then 1 else 0 := by
  unfold unitR
  rw [List.getD_eq_getElem?_getD, List.getElem?_set]
  by_cases e : i = j
  · subst e
    by_cases h : i < m
    · simp [h]
    · simp [h]
  · rw [if_neg e, if_neg (by omega), List.getElem?_replicate]
    split <;> rfl
theorem wide_vr {c : Nat} {M : Mx} (hR : Rect c M) {i : Nat} (h : i < M.length) (j : Nat) : vr ((wideM M)[i]'(by simpa using h)) j = if j < c then eM M i j else if j = c + i then 1 else 0 := by
  have hl : M[i].length = c := hR _ (List.getElem_mem h)
  rw [wideM_get h]
  unfold vr eM
  rw [getD_get h]
  simp only [List.getD_eq_getElem?_getD]
  by_cases hj : j < c
  · rw [if_pos hj, List.getElem?_append_left (by omega)]
  · rw [if_neg hj, List.getElem?_append_right (by omega), ← List.getD_eq_getElem?_getD, unitR_getD, hl]
    by_cases e : j = c + i
    · rw [if_pos e, if_pos (by omega)]
    · rw [if_neg e, if_neg (by omega)]
theorem eM_far {c : Nat} {M : Mx} (hR : Rect c M) {i j : Nat} (hj : c ≤ j) : eM M i j = 0 := by
  unfold eM
  rcases Nat.lt_or_ge i M.length with hi | hi
  · rw [getD_get hi, List.getD_eq_getElem?_getD, List.getElem?_eq_none (by rw [hR _ (List.getElem_mem hi)]; exact hj)]; rfl
  · simp only [List.getD_eq_getElem?_getD]; rw [List.getElem?_eq_none hi]; rfl
theorem eM_vr {M : Mx} {i : Nat} (h : i < M.length) (j : Nat) : eM M i j = vr M[i] j := by unfold eM vr; rw [getD_get h]
theorem wide_span {c : Nat} {M : Mx} (hR : Rect c M) {v : V} (h : Span (latM (wideM M)) v) : (∀ j, j < c → v j = cmb M (fun i => v (c + i)) j) ∧ ∀ j, c + M.length ≤ j → v j = 0 := by
  induction h with
  | zero => exact ⟨fun j _ => (cmb_zero M j).symm, fun _ _ => rfl⟩
  | @step v r q _ hr ih =>
    obtain ⟨x, hx, rfl⟩ := List.mem_map.1 hr
    obtain ⟨i, hi, rfl⟩ := List.getElem_of_mem hx
    have hi' : i < M.length := by simpa using hi
    refine ⟨fun j hj => ?_, fun j hj => ?_⟩
    · have e : (fun k => Hnf.sub v q (vr (wideM M)[i]) (c + k)) = Hnf.sub (fun k => v (c + k)) q (fun k => if k = i then 1 else 0) := by
        funext k
        simp only [Hnf.sub, wide_vr hR hi']
        rw [if_neg (by omega)]
        by_cases e : k = i
        · rw [if_pos (by omega), if_pos e]
        · rw [if_neg (by omega), if_neg e]
      rw [e, cmb_sub]
      have e2 : cmb M (fun k => if k = i then 1 else 0) j = eM M i j := by
        unfold cmb
        rw [sumZ_one (k := i) hi' (fun t _ ht => by simp only [if_neg ht]; simp)]
        simp
      rw [e2]
      simp only [Hnf.sub, wide_vr hR hi', if_pos hj, ← ih.1 j hj]
    · simp only [Hnf.sub, wide_vr hR hi', ih.2 j hj]
      rw [if_neg (by omega), if_neg (by omega)]; simp
theorem span_sum {M : List V} {f : Nat → V} (y : V) : ∀ {n : Nat}, (∀ i, i < n → Span M (f i)) → Span M (fun j => sumZ (fun i => y i * f i j) n)
  | 0, _ => .zero
  | n + 1, h => by
    have h1 := span_sum y (n := n) (fun i hi => h i (by omega))
    refine span_of_eq (h1.sub (-(y n)) (h n (by omega))) fun j => ?_
    simp only [Hnf.sub, sumZ]; grind
theorem span_wide {c : Nat} {M : Mx} (hR : Rect c M) {v : V} (h1 : ∀ j, j < c → v j = cmb M (fun i => v (c + i)) j) (h2 : ∀ j, c + M.length ≤ j → v j = 0) : Span (latM (wideM M)) v := by
  have hs := span_sum (M := latM (wideM M)) (f := fun i => vr ((wideM M).getD i [])) (fun i => v (c + i)) (n := M.length) (fun i hi => by
    rw [getD_get (by simpa using hi)]; exact .mem (List.mem_map.2 ⟨_, List.getElem_mem _, rfl⟩))
  refine span_of_eq hs fun j => ?_
  have e : ∀ i, i < M.length → v (c + i) * vr ((wideM M).getD i []) j = v (c + i) * (if j < c then eM M i j else if j = c + i then 1 else 0) := fun i hi => by
    rw [getD_get (by simpa using hi), wide_vr hR hi]
  rw [sumZ_congr e]
  by_cases hj : j < c
  · rw [h1 j hj]; unfold cmb; exact sumZ_congr fun i _ => by rw [if_pos hj]
  · by_cases hj2 : j < c + M.length
    · rw [sumZ_one (k := j - c) (by omega) (fun i hi hne => by rw [if_neg hj, if_neg (by omega)]; simp), if_neg hj, if_pos (by omega), show c + (j - c) = j by omega]; simp
    · rw [h2 j (by omega), sumZ_zero fun i hi => by rw [if_neg hj, if_neg (by omega)]; simp]
theorem span_cmb {M : Mx} {v : V} : Span (latM M) v ↔ ∃ y, v = cmb M y := by
  constructor
  · intro h
    induction h with
    | zero => exact ⟨fun _ => 0, by funext j; exact (cmb_zero M j).symm⟩
    | @step v r q _ hr ih =>
      obtain ⟨y, rfl⟩ := ih
      obtain ⟨x, hx, rfl⟩ := List.mem_map.1 hr
      obtain ⟨i, hi, rfl⟩ := List.getElem_of_mem hx
      refine ⟨Hnf.sub y q (fun k => if k = i then 1 else 0), ?_⟩
      funext j
      rw [cmb_sub]
      have e2 : cmb M (fun k => if k = i then 1 else 0) j = eM M i j := by
        unfold cmb
        rw [sumZ_one (k := i) hi (fun t _ ht => by simp only [if_neg ht]; simp)]
        simp
      rw [e2, eM_vr hi]; rfl
  · rintro ⟨y, rfl⟩
    have hs := span_sum (M := latM M) (f := fun i => vr (M.getD i [])) y (n := M.length) (fun i hi => by
      rw [getD_get hi]; exact .mem (List.mem_map.2 ⟨_, List.getElem_mem _, rfl⟩))
    exact hs
def upr (c : Nat) (H : Mx) : Mx := H.filter fun r => decide (pv r < c)
def low (c : Nat) (H : Mx) : Mx := H.filter fun r => !decide (pv r < c)
def krn (c : Nat) (H : Mx) : Mx := (low c H).map (List.drop c)
theorem split_at (P : Nat → Prop) (hm : ∀ i j, i < j → ¬ P i → ¬ P j) : ∀ k, ∃ u, u ≤ k ∧ (∀ i, i < u → P i) ∧ ∀ i, u ≤ i → i < k → ¬ P i
  | 0 => ⟨0, by omega, fun i h => by omega, fun i _ h => by omega⟩
  | k + 1 => by
    obtain ⟨u, hu, h1, h2⟩ := split_at P hm k
    by_cases hk : P k
    · have : u = k := Classical.byContradiction fun hne => hm u k (by omega) (h2 u (Nat.le_refl _) (by omega)) hk
      subst this
      exact ⟨u + 1, by omega, fun i hi => by
        rcases Nat.lt_or_ge i u with h | h
        · exact h1 i h
        · have : i = u := by omega
          subst this; exact hk, fun i h h' => by omega⟩
    · exact ⟨u, by omega, h1, fun i hi hik => by
        by_cases e : i = k
        · subst e; exact hk
        · exact h2 i hi (by omega)⟩
theorem filter_take {α : Type} {p : α → Bool} : ∀ {l : List α} {u : Nat}, (∀ i (h : i < l.length), i < u → p l[i] = true) → (∀ i (h : i < l.length), u ≤ i → p l[i] = false) → l.filter p = l.take u ∧ l.filter (fun a => !p a) = l.drop u
  | [], u, _, _ => by simp
  | a :: l, 0, _, h2 => by
    have ih := filter_take (l := l) (u := 0) (p := p) (fun i h hi => by omega) (fun i h _ => by have := h2 (i + 1) (by simpa using h) (by omega); simpa using this)
    have ha := h2 0 (by simp) (by omega)
    simp only [List.getElem_cons_zero] at ha
    rw [List.filter_cons_of_neg (by simp [ha]), List.filter_cons_of_pos (by simp [ha]), ih.1, ih.2]
    simp
  | a :: l, u + 1, h1, h2 => by
    have ih := filter_take (l := l) (u := u) (p := p) (fun i h hi => by have := h1 (i + 1) (by simpa using h) (by omega); simpa using this) (fun i h hi => by have := h2 (i + 1) (by simpa using h) (by omega); simpa using this)
    have ha := h1 0 (by simp) (by omega)
    simp only [List.getElem_cons_zero] at ha
    rw [List.filter_cons_of_pos ha, List.filter_cons_of_neg (by simp [ha]), ih.1, ih.2]
    simp
theorem IsH.pvs {n : Nat} {ps : List Nat} {H : Mx} (h : IsH n ps H) {i : Nat} (hi : i < H.length) : ps.getD i 0 = pv (H.getD i []) := by
  rw [isH_pv h, getD_map pv H i hi 0 []]
theorem IsH.split {n : Nat} {ps : List Nat} {H : Mx} (h : IsH n ps H) (c : Nat) : ∃ u, u ≤ H.length ∧ upr c H = H.take u ∧ low c H = H.drop u ∧ (∀ i, i < u → ps.getD i 0 < c) ∧ ∀ i, u ≤ i → i < H.length → c ≤ ps.getD i 0 := by
  obtain ⟨u, hu, h1, h2⟩ := split_at (fun i => i < H.length ∧ ps.getD i 0 < c) (fun i j hij hn hp => hn ⟨by omega, by have := h.inc i j hij hp.1; omega⟩) H.length
  have hf := filter_take (p := fun r => decide (pv r < c)) (l := H) (u := u) (fun i hi hiu => by
    have := (h1 i hiu).2
    rw [h.pvs hi, getD_get hi] at this
    exact decide_eq_true this) (fun i hi hiu => by
    have := h2 i hiu hi
    refine decide_eq_false fun hc => this ⟨hi, ?_⟩
    rw [h.pvs hi, getD_get hi]; exact hc)
  exact ⟨u, hu, hf.1, hf.2, fun i hi => (h1 i hi).2, fun i hi hl => Classical.byContradiction fun hc => h2 i hi hl ⟨hl, by omega⟩⟩
theorem subK_take (k : Int) (c : Nat) : ∀ (a b : List Int), b.length ≤ a.length → (subK k a b).take c = subK k (a.take c) (b.take c) := by
  induction c with
  | zero => intro a b _; simp [subK]
  | succ c ih =>
    intro a b h
    cases b with
    | nil => simp [subK_nil]
    | cons y b =>
      cases a with
      | nil => simp at h
      | cons x a => simp only [subK, List.take_succ_cons]; rw [ih a b (by simpa using h)]
theorem getD_take {l : List Int} {c j : Nat} (h : j < c) : (l.take c).getD j 0 = l.getD j 0 := by
  simp only [List.getD_eq_getElem?_getD, List.getElem?_take, if_pos h]
theorem getD_drop (l : List Int) (c j : Nat) : (l.drop c).getD j 0 = l.getD (c + j) 0 := by
  simp only [List.getD_eq_getElem?_getD, List.getElem?_drop]
theorem pv_take {r : List Int} {c : Nat} (h : pv r < c) (hr : pv r < r.length) : pv (r.take c) = pv r := by
  refine (pv_of (p := pv r) ?_ fun j hj => ?_).1
  · rw [getD_take h]; exact pv_ne hr
  · rw [getD_take (by omega)]; exact pv_zero hj
theorem redX_left {m c : Nat} : ∀ (U : Mx) (l : List Int), Rect m U → l.length = m → (∀ r ∈ U, pv r < c ∧ pv r < m) → (redX U l).take c = redX (U.map (List.take c)) (l.take c)
  | [], l, _, _, _ => rfl
  | r :: U, l, hR, hl, hp => by
    have hr : r.length = m := hR r (by simp)
    obtain ⟨p1, p2⟩ := hp r (by simp)
    rw [redX, List.map_cons, redX, redX_left U _ (fun s hs => hR s (by simp [hs])) (by simp [hl]) (fun s hs => hp s (by simp [hs])), subK_take _ _ _ _ (by omega)]
    have e : stepQ (r.take c) (l.take c) = stepQ r l := by
      unfold stepQ
      rw [pv_take p1 (by omega), getD_take p1, getD_take p1]
    rw [e]
theorem eM_map_take {c : Nat} {H : Mx} {i j : Nat} (hj : j < c) : eM (H.map (List.take c)) i j = eM H i j := by
  unfold eM
  rcases Nat.lt_or_ge i H.length with hi | hi
  · rw [getD_map (List.take c) H i hi [] [], getD_take hj]
  · rw [show (H.map (List.take c)).getD i [] = [] by rw [List.getD_eq_getElem?_getD, List.getElem?_eq_none (by simpa using hi)]; rfl, show H.getD i [] = [] by rw [List.getD_eq_getElem?_getD, List.getElem?_eq_none hi]; rfl]
theorem eM_map_drop {c : Nat} {H : Mx} {i j : Nat} : eM (H.map (List.drop c)) i j = eM H i (c + j) := by
  unfold eM
  rcases Nat.lt_or_ge i H.length with hi | hi
  · rw [getD_map (List.drop c) H i hi [] [], getD_drop]
  · rw [show (H.map (List.drop c)).getD i [] = [] by rw [List.getD_eq_getElem?_getD, List.getElem?_eq_none (by simpa using hi)]; rfl, show H.getD i [] = [] by rw [List.getD_eq_getElem?_getD, List.getElem?_eq_none hi]; rfl]; rfl
theorem eM_take {H : Mx} {u i j : Nat} (h : i < u) : eM (H.take u) i j = eM H i j := by
  unfold eM; simp only [List.getD_eq_getElem?_getD, List.getElem?_take, if_pos h]
theorem eM_drop {H : Mx} {u i j : Nat} : eM (H.drop u) i j = eM H (u + i) j := by
  unfold eM; simp only [List.getD_eq_getElem?_getD, List.getElem?_drop]
theorem getD_takeN {l : List Nat} {u i : Nat} (h : i < u) : (l.take u).getD i 0 = l.getD i 0 := by
  simp only [List.getD_eq_getElem?_getD, List.getElem?_take, if_pos h]
theorem IsH.leftU {n c u : Nat} {ps : List Nat} {H : Mx} (h : IsH n ps H) (hc : c ≤ n) (hu : u ≤ H.length) (hp : ∀ i, i < u → ps.getD i 0 < c) : IsH c (ps.take u) ((H.take u).map (List.take c)) := by
  have hl : ((H.take u).map (List.take c)).length = u := by simp; omega
  have hpl := h.len
  refine ⟨fun r hr => ?_, by simp; omega, fun i hi => ?_, fun i k hik hk => ?_, fun i hi j hj => ?_, fun i hi => ?_, fun i k hik hk => ?_⟩
  · obtain ⟨s, hs, rfl⟩ := List.mem_map.1 hr
    rw [List.length_take, h.rect s (List.mem_of_mem_take hs)]; omega
  · rw [getD_takeN (by omega)]; exact hp i (by omega)
  · rw [getD_takeN (by omega), getD_takeN (by omega)]; exact h.inc i k hik (by omega)
  · rw [getD_takeN (by omega)] at hj
    have := hp i (by omega)
    rw [eM_map_take (by omega), eM_take (by omega)]; exact h.left i (by omega) j hj
  · rw [getD_takeN (by omega), eM_map_take (hp i (by omega)), eM_take (by omega)]; exact h.pos i (by omega)
  · rw [getD_takeN (by omega), eM_map_take (hp k (by omega)), eM_map_take (hp k (by omega)), eM_take (by omega), eM_take (by omega)]; exact h.red i k hik (by omega)
theorem IsH.rightD {n c m u : Nat} {ps : List Nat} {H : Mx} (h : IsH n ps H) (hn : n = c + m) (hu : u ≤ H.length) (hp : ∀ i, u ≤ i → i < H.length → c ≤ ps.getD i 0) : IsH m ((ps.drop u).map (fun p => p - c)) ((H.drop u).map (List.drop c)) := by
  have hl : ((H.drop u).map (List.drop c)).length = H.length - u := by simp
  have hpl := h.len
  have hps : ∀ i, i < H.length - u → ((ps.drop u).map (fun p => p - c)).getD i 0 = ps.getD (u + i) 0 - c := fun i hi => by
    rw [List.getD_eq_getElem?_getD, List.getElem?_map, List.getElem?_drop, List.getElem?_eq_getElem (by omega), getD_get (by omega)]; rfl
  refine ⟨fun r hr => ?_, by simp; omega, fun i hi => ?_, fun i k hik hk => ?_, fun i hi j hj => ?_, fun i hi => ?_, fun i k hik hk => ?_⟩
  · obtain ⟨s, hs, rfl⟩ := List.mem_map.1 hr
    rw [List.length_drop, h.rect s (List.mem_of_mem_drop hs)]; omega
  · rw [hps i (by omega)]; have := h.lt (u + i) (by omega); have := hp (u + i) (by omega) (by omega); omega
  · rw [hps i (by omega), hps k (by omega)]
    have := h.inc (u + i) (u + k) (by omega) (by omega)
    have := hp (u + i) (by omega) (by omega); omega
  · rw [hps i (by omega)] at hj
    rw [eM_map_drop, eM_drop]; exact h.left (u + i) (by omega) _ (by omega)
  · rw [hps i (by omega), eM_map_drop, eM_drop]
    have := hp (u + i) (by omega) (by omega)
    rw [show c + (ps.getD (u + i) 0 - c) = ps.getD (u + i) 0 by omega]; exact h.pos (u + i) (by omega)
  · have := hp (u + k) (by omega) (by omega)
    rw [hps k (by omega), eM_map_drop, eM_map_drop, eM_drop, eM_drop, show c + (ps.getD (u + k) 0 - c) = ps.getD (u + k) 0 by omega]; exact h.red (u + i) (u + k) (by omega) (by omega)
end Go.Proofs.YtkjnjmihfonilaaGreatDoor
namespace Go.Proofs.YtkjnjmihfonilaaGreatDoor
open Go.RowKit Go.Sort
def rowsL (ls : List Ln) : Mx := ls.map (·.1)
@[simp] theorem rowsL_length (ls : List Ln) : (rowsL ls).length = ls.length := by simp [rowsL]
theorem rowsL_getD (ls : List Ln) (i : Nat) : (rowsL ls).getD i [] = (ls.getD i default).1 := by
  unfold rowsL
  simp only [List.getD_eq_getElem?_getD, List.getElem?_map]
  cases ls[i]? <;> rfl
theorem rowsL_set (ls : List Ln) (i : Nat) (l : Ln) : rowsL (ls.set i l) = (rowsL ls).set i l.1 := by simp [rowsL, List.map_set]
theorem rowsL_swp (ls : List Ln) (i j : Nat) : rowsL (swp ls i j) = sw2 (rowsL ls) [] i j := by
  unfold swp sw2
  rw [rowsL_set, rowsL_set, rowsL_getD, rowsL_getD]
theorem rowsL_ln1 (M : Mx) : rowsL (ln1 M) = M := by simp [rowsL, ln1, Function.comp_def]
structure Gr (B : Nat) (w : World) (g cap N n : Nat) (ad : List (Nat × Nat)) (ls : List Ln) : Prop where
  gr : GrX B w (slv g N cap) (rowsL ls) ad
  len : ls.length = N
  dim : Dim n 0 ls
theorem Gr.ext {B : Nat} {w w' : World} {g cap N n : Nat} {ad : List (Nat × Nat)} {ls : List Ln} (h : Gr B w g cap N n ad ls) (he : Ext w w') : Gr B w' g cap N n ad ls := ⟨h.gr.ext he, h.len, h.dim⟩
theorem Gr.rect {B : Nat} {w : World} {g cap N n : Nat} {ad : List (Nat × Nat)} {ls : List Ln} (h : Gr B w g cap N n ad ls) : Rect n (rowsL ls) := fun r hr => by
  obtain ⟨l, hl, rfl⟩ := List.mem_map.1 hr; exact (h.dim l hl).1
theorem Gr.grl {B : Nat} {w : World} {g cap N n : Nat} {ad : List (Nat × Nat)} {ls : List Ln} (h : Gr B w g cap N n ad ls) : GrX B w (slv g (rowsL ls).length cap) (rowsL ls) ad := by
  have := h.gr; rwa [← h.len, ← rowsL_length] at this
theorem Gr.base {B : Nat} {w : World} {g cap N n : Nat} {ad : List (Nat × Nat)} {ls : List Ln} (h : Gr B w g cap N n ad ls) : B ≤ g ∧ g < w.heap.size := h.grl.outer.lt
theorem Gr.fz {B : Nat} {w : World} {g cap N n : Nat} {ad : List (Nat × Nat)} {ls : List Ln} (h : Gr B w g cap N n ad ls) (o : Nat) : w.frozen? ⟨g, o, none⟩ = false := h.grl.outer.frozen o
theorem ss_at {r : List Int} {c : Nat} (h : c < r.length) (h' : c < (ss r).length) : (ss r)[c] = I (r.getD c 0) := by rw [getD_get h]; simp [ss]
theorem Gr.ln {B : Nat} {w : World} {g cap N n d i c : Nat} {ad : List (Nat × Nat)} {ls : List Ln} (h : Gr B w g cap N n ad ls) (hi : d + i < N) (hc : c < n) :
    ∃ gx cx, ad[d + i]? = some (gx, cx) ∧ w.cell? ⟨g, d + i, none⟩ = some (slv gx n cx) ∧ w.cell? ⟨gx, c, none⟩ = some (I (cols c d ls i)) ∧ OwnV 80 B w gx cx (ss (ls.getD (d + i) default).1) ∧ gx ≠ g := by
  obtain ⟨gx, cx, h1, h2, h3, h4, h5⟩ := h.grl.at h.rect (by omega) (i := d + i) (by rw [rowsL_length, h.len]; exact hi)
  rw [rowsL_getD] at h3 h5
  refine ⟨gx, cx, h1, h2, ?_, h3, h4⟩
  rw [h3.cell (j := c) (by rw [ss_length, h5]; exact hc)]
  exact congrArg some (ss_at (by rw [h5]; exact hc) _)
theorem Gr.ne {B : Nat} {w : World} {g cap N n i t gx cx gt ct : Nat} {ad : List (Nat × Nat)} {ls : List Ln} (h : Gr B w g cap N n ad ls) (hn : 0 < n) (hi : i < N) (ht : t < N) (hne : i ≠ t) (hai : ad[i]? = some (gx, cx)) (hat : ad[t]? = some (gt, ct)) : gx ≠ gt := by
  obtain ⟨h1, e1⟩ := List.getElem?_eq_some_iff.1 hai
  obtain ⟨h2, e2⟩ := List.getElem?_eq_some_iff.1 hat
  have hl : ∀ j (hj : j < (rowsL ls).length), 0 < (rowsL ls)[j].length := fun j hj => by rw [h.rect _ (List.getElem_mem hj)]; exact hn
  have hi' : i < (rowsL ls).length := by rw [rowsL_length, h.len]; exact hi
  have ht' : t < (rowsL ls).length := by rw [rowsL_length, h.len]; exact ht
  have := h.gr.dis i t h1 h2 hi' ht' (hl i hi') (hl t ht') hne
  rw [e1, e2] at this
  exact this
theorem Gr.wrote {B : Nat} {w w' : World} {g cap N n i gx cx : Nat} {ad : List (Nat × Nat)} {ls : List Ln} (h : Gr B w g cap N n ad ls) (hn : 0 < n) (hi : i < N) (hai : ad[i]? = some (gx, cx)) {l : Ln} (hl : l.1.length = n ∧ l.2.length = 0)
    (hO : OwnV 80 B w' gx cx (ss l.1)) (hG : w.grownBy w' (some gx)) : Gr B w' g cap N n ad (ls.set i l) := by
  have hi' : i < (rowsL ls).length := by rw [rowsL_length, h.len]; exact hi
  have h1 := h.grl.wrote hi' hai (r := l.1) (by rw [rowsL_getD, hl.1, (h.dim.getD (by rw [h.len]; exact hi)).1]) (by omega) hO (Chg.of_grown hG rfl)
  rw [← rowsL_set, rowsL_length, h.len] at h1
  exact ⟨h1, by rw [List.length_set]; exact h.len, h.dim.set i hl⟩
theorem Gr.swap {B : Nat} {w : World} {g cap N n i j gi ci gj cj : Nat} {ad : List (Nat × Nat)} {ls : List Ln} (h : Gr B w g cap N n ad ls) (hn : 0 < n) (hi : i < N) (hj : j < N) (hai : ad[i]? = some (gi, ci)) (haj : ad[j]? = some (gj, cj)) :
    Gr B ((w.setCell ⟨g, i, none⟩ (slv gj n cj)).setCell ⟨g, j, none⟩ (slv gi n ci)) g cap N n (sw2 ad (0, 0) i j) (swp ls i j)
      ∧ w.grownBy ((w.setCell ⟨g, i, none⟩ (slv gj n cj)).setCell ⟨g, j, none⟩ (slv gi n ci)) (some g) := by
  have hi' : i < (rowsL ls).length := by rw [rowsL_length, h.len]; exact hi
  have hj' : j < (rowsL ls).length := by rw [rowsL_length, h.len]; exact hj
  obtain ⟨h1, h2, h3⟩ := h.grl.swapped h.rect hn hi' hj' hai haj
  rw [← rowsL_swp, rowsL_length, h.len] at h1
  refine ⟨⟨h1, by rw [swp_length]; exact h.len, ?_⟩, h2⟩
  unfold swp
  exact (h.dim.set i (h.dim.getD (by rw [h.len]; exact hj))).set j (h.dim.getD (by rw [h.len]; exact hi))
set_option maxRecDepth 100000 in
theorem take_lines {w0 w : World} {g cap N n i t E gx cx gt ct : Nat} {q : Int} {ad : List (Nat × Nat)} {ls : List Ln} (h : Gr w0.heap.size w g cap N n ad ls) (hn : 0 < n) (hn2 : n ≤ 1000000) (hi : i < N) (ht : t < N) (hne : i ≠ t)
    (hai : ad[i]? = some (gx, cx)) (hat : ad[t]? = some (gt, ct)) (hA : All (fun z => z.natAbs < 2 ^ E) (ls.getD i default)) (hB : All (fun z => z.natAbs < 2 ^ E) (ls.getD t default)) (hq : q.natAbs < 2 ^ E) (hE : 2 * E + 2 < LIM) (hL : Laid w0) (hE0 : Ext w0 w) :
    Calls Tryz.prog 152 #[slv gx n cx, slv gt n ct, I q] w fun e w' =>
      e = .returned (.tuple #[]) ∧ Gr w0.heap.size w' g cap N n ad (ls.set i (lsub q (ls.getD i default) (ls.getD t default))) ∧ Ext w0 w' ∧ w.grownBy w' (some gx) := by
  have li := h.dim.getD (i := i) (by rw [h.len]; exact hi)
  have lt := h.dim.getD (i := t) (by rw [h.len]; exact ht)
  obtain ⟨gx', cx', a1, a2, a3, a4, a5⟩ := h.grl.at h.rect hn (i := i) (by rw [rowsL_length, h.len]; exact hi)
  obtain ⟨gt', ct', b1, b2, b3, b4, b5⟩ := h.grl.at h.rect hn (i := t) (by rw [rowsL_length, h.len]; exact ht)
  rw [hai] at a1
  rw [hat] at b1
  injection a1 with a1
  injection b1 with b1
  injection a1 with e1 e2
  injection b1 with e3 e4
  subst e1 e2 e3 e4
  rw [rowsL_getD] at a3 b3
  have hk := stake_any (w0 := w0) (w := w) (ga := gx) (ca := cx) (k := q) (cb := ct) a3 b3.sl (Ne.symm (h.ne hn hi ht hne hai hat)) (by rw [lt.1, li.1]) (by rw [li.1]; exact hn2) (less_big hA.1 hB.1 hq hE) hL hE0
  rw [li.1] at hk
  refine hk.mono ?_
  rintro e w' ⟨rfl, hO, hG⟩
  exact ⟨rfl, h.wrote hn hi hai (l := lsub q (ls.getD i default) (ls.getD t default)) ⟨by show (subK q _ _).length = n; rw [subK_length]; exact li.1, by show (subK q _ _).length = 0; rw [subK_length]; exact li.2⟩ hO hG, ext_trans_grown hE0 hG a3.lt.1, hG⟩
set_option maxRecDepth 100000 in
theorem turn_lines {w0 w : World} {g cap N n i E gx cx : Nat} {ad : List (Nat × Nat)} {ls : List Ln} (h : Gr w0.heap.size w g cap N n ad ls) (hn : 0 < n) (hn2 : n ≤ 1000000) (hi : i < N)
    (hai : ad[i]? = some (gx, cx)) (hA : All (fun z => z.natAbs < 2 ^ E) (ls.getD i default)) (hE : 2 * E + 2 < LIM) (hE0 : Ext w0 w) :
    Calls Tryz.prog 111 #[slv gx n cx] w fun e w' =>
      e = .returned (.tuple #[]) ∧ Gr w0.heap.size w' g cap N n ad (ls.set i (lneg (ls.getD i default))) ∧ Ext w0 w' ∧ w.grownBy w' (some gx) := by
  have li := h.dim.getD (i := i) (by rw [h.len]; exact hi)
  obtain ⟨gx', cx', a1, a2, a3, a4, a5⟩ := h.grl.at h.rect hn (i := i) (by rw [rowsL_length, h.len]; exact hi)
  rw [hai] at a1
  injection a1 with a1
  injection a1 with e1 e2
  subst e1 e2
  rw [rowsL_getD] at a3
  refine (sturn_row (B := w0.heap.size) (w := w) a3 li.1 hn2 (fun z hz => by have := nd_lt2 (hA.1 z hz); omega)).mono ?_
  rintro e w' ⟨rfl, hO, hG⟩
  exact ⟨rfl, h.wrote hn hi hai (l := lneg (ls.getD i default)) ⟨by show (List.map _ _).length = n; rw [List.length_map]; exact li.1, by show (List.map _ _).length = 0; rw [List.length_map]; exact li.2⟩ hO hG, ext_trans_grown hE0 hG a3.lt.1, hG⟩
end Go.Proofs.YtkjnjmihfonilaaGreatDoor
namespace Go.Proofs.YtkjnjmihfonilaaGreatDoor
open Go.RowKit Go.Sort
structure Lr (B : Nat) (w : World) (g cap N n : Nat) (ad : List (Nat × Nat)) (ls : List Ln) : Prop where
  gr : LrX B w (slv g N cap) (rowsL ls) ad
  len : ls.length = N
  dim : Dim n 0 ls
theorem Lr.ext {B : Nat} {w w' : World} {g cap N n : Nat} {ad : List (Nat × Nat)} {ls : List Ln} (h : Lr B w g cap N n ad ls) (he : Ext w w') : Lr B w' g cap N n ad ls := ⟨h.gr.ext he, h.len, h.dim⟩
theorem Lr.rect {B : Nat} {w : World} {g cap N n : Nat} {ad : List (Nat × Nat)} {ls : List Ln} (h : Lr B w g cap N n ad ls) : Rect n (rowsL ls) := fun r hr => by
  obtain ⟨l, hl, rfl⟩ := List.mem_map.1 hr; exact (h.dim l hl).1
theorem Lr.grl {B : Nat} {w : World} {g cap N n : Nat} {ad : List (Nat × Nat)} {ls : List Ln} (h : Lr B w g cap N n ad ls) : LrX B w (slv g (rowsL ls).length cap) (rowsL ls) ad := by
  have := h.gr; rwa [← h.len, ← rowsL_length] at this
theorem Lr.base {B : Nat} {w : World} {g cap N n : Nat} {ad : List (Nat × Nat)} {ls : List Ln} (h : Lr B w g cap N n ad ls) : B ≤ g ∧ g < w.heap.size := h.grl.outer.lt
theorem Lr.fz {B : Nat} {w : World} {g cap N n : Nat} {ad : List (Nat × Nat)} {ls : List Ln} (h : Lr B w g cap N n ad ls) (o : Nat) : w.frozen? ⟨g, o, none⟩ = false := h.grl.outer.frozen o
theorem Lr.ln {B : Nat} {w : World} {g cap N n d i c : Nat} {ad : List (Nat × Nat)} {ls : List Ln} (h : Lr B w g cap N n ad ls) (hi : d + i < N) (hc : c < n) :
    ∃ gx cx, ad[d + i]? = some (gx, cx) ∧ w.cell? ⟨g, d + i, none⟩ = some (slv gx n cx) ∧ w.cell? ⟨gx, c, none⟩ = some (I (cols c d ls i)) ∧ OwnV 80 B w gx cx (ss (ls.getD (d + i) default).1) ∧ gx ≠ g := by
  obtain ⟨gx, cx, h1, h2, h3, h4, h5⟩ := h.grl.at h.rect (by omega) (i := d + i) (by rw [rowsL_length, h.len]; exact hi)
  rw [rowsL_getD] at h3 h5
  refine ⟨gx, cx, h1, h2, ?_, h3, h4⟩
  rw [h3.cell (j := c) (by rw [ss_length, h5]; exact hc)]
  exact congrArg some (ss_at (by rw [h5]; exact hc) _)
theorem Lr.ne {B : Nat} {w : World} {g cap N n i t gx cx gt ct : Nat} {ad : List (Nat × Nat)} {ls : List Ln} (h : Lr B w g cap N n ad ls) (hn : 0 < n) (hi : i < N) (ht : t < N) (hne : i ≠ t) (hai : ad[i]? = some (gx, cx)) (hat : ad[t]? = some (gt, ct)) : gx ≠ gt := by
  obtain ⟨h1, e1⟩ := List.getElem?_eq_some_iff.1 hai
  obtain ⟨h2, e2⟩ := List.getElem?_eq_some_iff.1 hat
  have hl : ∀ j (hj : j < (rowsL ls).length), 0 < (rowsL ls)[j].length := fun j hj => by rw [h.rect _ (List.getElem_mem hj)]; exact hn
  have hi' : i < (rowsL ls).length := by rw [rowsL_length, h.len]; exact hi
  have ht' : t < (rowsL ls).length := by rw [rowsL_length, h.len]; exact ht
  have := h.gr.dis i t h1 h2 hi' ht' (hl i hi') (hl t ht') hne
  rw [e1, e2] at this
  exact this
theorem Lr.wrote {B : Nat} {w w' : World} {g cap N n i gx cx : Nat} {ad : List (Nat × Nat)} {ls : List Ln} (h : Lr B w g cap N n ad ls) (hn : 0 < n) (hi : i < N) (hai : ad[i]? = some (gx, cx)) {l : Ln} (hl : l.1.length = n ∧ l.2.length = 0)
    (hO : OwnV 80 B w' gx cx (ss l.1)) (hG : w.grownBy w' (some gx)) : Lr B w' g cap N n ad (ls.set i l) := by
  have hi' : i < (rowsL ls).length := by rw [rowsL_length, h.len]; exact hi
  have h1 := h.grl.wrote hi' hai (r := l.1) (by rw [rowsL_getD, hl.1, (h.dim.getD (by rw [h.len]; exact hi)).1]) (by omega) hO (Chg.of_grown hG rfl)
  rw [← rowsL_set, rowsL_length, h.len] at h1
  exact ⟨h1, by rw [List.length_set]; exact h.len, h.dim.set i hl⟩
theorem Lr.swap {B : Nat} {w : World} {g cap N n i j gi ci gj cj : Nat} {ad : List (Nat × Nat)} {ls : List Ln} (h : Lr B w g cap N n ad ls) (hn : 0 < n) (hi : i < N) (hj : j < N) (hai : ad[i]? = some (gi, ci)) (haj : ad[j]? = some (gj, cj)) :
    Lr B ((w.setCell ⟨g, i, none⟩ (slv gj n cj)).setCell ⟨g, j, none⟩ (slv gi n ci)) g cap N n (sw2 ad (0, 0) i j) (swp ls i j)
      ∧ w.grownBy ((w.setCell ⟨g, i, none⟩ (slv gj n cj)).setCell ⟨g, j, none⟩ (slv gi n ci)) (some g) := by
  have hi' : i < (rowsL ls).length := by rw [rowsL_length, h.len]; exact hi
  have hj' : j < (rowsL ls).length := by rw [rowsL_length, h.len]; exact hj
  obtain ⟨h1, h2, h3⟩ := h.grl.swapped h.rect hn hi' hj' hai haj
  rw [← rowsL_swp, rowsL_length, h.len] at h1
  refine ⟨⟨h1, by rw [swp_length]; exact h.len, ?_⟩, h2⟩
  unfold swp
  exact (h.dim.set i (h.dim.getD (by rw [h.len]; exact hj))).set j (h.dim.getD (by rw [h.len]; exact hi))
set_option maxRecDepth 100000 in
theorem less_lines {w0 w : World} {g cap N n i t E gx cx gt ct : Nat} {q : Int} {ad : List (Nat × Nat)} {ls : List Ln} (h : Lr w0.heap.size w g cap N n ad ls) (hn : 0 < n) (hn2 : n ≤ 1000000) (hi : i < N) (ht : t < N) (hne : i ≠ t)
    (hai : ad[i]? = some (gx, cx)) (hat : ad[t]? = some (gt, ct)) (hA : All (fun z => z.natAbs < 2 ^ E) (ls.getD i default)) (hB : All (fun z => z.natAbs < 2 ^ E) (ls.getD t default)) (hq : q.natAbs < 2 ^ E) (hE : 2 * E + 2 < LIM) (hL : Laid w0) (hE0 : Ext w0 w) :
    Calls Tryz.prog 138 #[slv gx n cx, I q, slv gt n ct] w fun e w' =>
      e = .returned (.tuple #[]) ∧ Lr w0.heap.size w' g cap N n ad (ls.set i (lsub q (ls.getD i default) (ls.getD t default))) ∧ Ext w0 w' ∧ w.grownBy w' (some gx) := by
  have li := h.dim.getD (i := i) (by rw [h.len]; exact hi)
  have lt := h.dim.getD (i := t) (by rw [h.len]; exact ht)
  obtain ⟨gx', cx', a1, a2, a3, a4, a5⟩ := h.grl.at h.rect hn (i := i) (by rw [rowsL_length, h.len]; exact hi)
  obtain ⟨gt', ct', b1, b2, b3, b4, b5⟩ := h.grl.at h.rect hn (i := t) (by rw [rowsL_length, h.len]; exact ht)
  rw [hai] at a1
  rw [hat] at b1
  injection a1 with a1
  injection b1 with b1
  injection a1 with e1 e2
  injection b1 with e3 e4
  subst e1 e2 e3 e4
  rw [rowsL_getD] at a3 b3
  have hk := lless_any (w0 := w0) (w := w) (ga := gx) (ca := cx) (k := q) (cb := ct) a3 b3.sl (Ne.symm (h.ne hn hi ht hne hai hat)) (by rw [lt.1, li.1]) (by rw [li.1]; exact hn2) (less_big hA.1 hB.1 hq hE) hL hE0
  rw [li.1] at hk
  refine hk.mono ?_
  rintro e w' ⟨rfl, hO, hG⟩
  exact ⟨rfl, h.wrote hn hi hai (l := lsub q (ls.getD i default) (ls.getD t default)) ⟨by show (subK q _ _).length = n; rw [subK_length]; exact li.1, by show (subK q _ _).length = 0; rw [subK_length]; exact li.2⟩ hO hG, ext_trans_grown hE0 hG a3.lt.1, hG⟩
set_option maxRecDepth 100000 in
theorem neg_lines {w0 w : World} {g cap N n i E gx cx : Nat} {ad : List (Nat × Nat)} {ls : List Ln} (h : Lr w0.heap.size w g cap N n ad ls) (hn : 0 < n) (hn2 : n ≤ 1000000) (hi : i < N)
    (hai : ad[i]? = some (gx, cx)) (hA : All (fun z => z.natAbs < 2 ^ E) (ls.getD i default)) (hE : 2 * E + 2 < LIM) (hE0 : Ext w0 w) :
    Calls Tryz.prog 154 #[slv gx n cx] w fun e w' =>
      e = .returned (.tuple #[]) ∧ Lr w0.heap.size w' g cap N n ad (ls.set i (lneg (ls.getD i default))) ∧ Ext w0 w' ∧ w.grownBy w' (some gx) := by
  have li := h.dim.getD (i := i) (by rw [h.len]; exact hi)
  obtain ⟨gx', cx', a1, a2, a3, a4, a5⟩ := h.grl.at h.rect hn (i := i) (by rw [rowsL_length, h.len]; exact hi)
  rw [hai] at a1
  injection a1 with a1
  injection a1 with e1 e2
  subst e1 e2
  rw [rowsL_getD] at a3
  refine (lneg_row (B := w0.heap.size) (w := w) a3 li.1 hn2 (fun z hz => by have := nd_lt2 (hA.1 z hz); omega)).mono ?_
  rintro e w' ⟨rfl, hO, hG⟩
  exact ⟨rfl, h.wrote hn hi hai (l := lneg (ls.getD i default)) ⟨by show (List.map _ _).length = n; rw [List.length_map]; exact li.1, by show (List.map _ _).length = 0; rw [List.length_map]; exact li.2⟩ hO hG, ext_trans_grown hE0 hG a3.lt.1, hG⟩
theorem Lr.el {B : Nat} {w : World} {g cap N n i c : Nat} {ad : List (Nat × Nat)} {ls : List Ln} (h : Lr B w g cap N n ad ls) (hi : i < N) (hc : c < n) :
    ∃ gx cx, ad[i]? = some (gx, cx) ∧ w.cell? ⟨g, i, none⟩ = some (slv gx n cx) ∧ w.cell? ⟨gx, c, none⟩ = some (I (en ls i c)) ∧ OwnV 80 B w gx cx (ss (ls.getD i default).1) ∧ gx ≠ g := by
  obtain ⟨gx, cx, h1, h2, h3, h4, h5⟩ := h.ln (d := i) (i := 0) (by omega) hc
  exact ⟨gx, cx, h1, h2, h3, h4, h5⟩
end Go.Proofs.YtkjnjmihfonilaaGreatDoor
