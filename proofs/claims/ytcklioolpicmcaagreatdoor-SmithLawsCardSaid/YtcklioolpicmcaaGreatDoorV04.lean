/- Part 4 of the proof of the claim: contracts of the functions that it reaches, and plain laws; no condition. -/
import Derived.Test.YtcklioolpicmcaaGreatDoorV03
/- Plain: a row reduced by a form. -/
namespace Go.Proofs.YtcklioolpicmcaaGreatDoor
open Hnf (V Span Ech Red)
/-- The multiple of a form's row that is taken away. -/
def stepQ (r x : List Int) : Int := (x.getD (pv r) 0).fdiv (r.getD (pv r) 0)
/-- What is left of a row, and the multiples. -/
def redX : Mx → List Int → List Int
  | [], x => x
  | r :: F, x => redX F (subK (stepQ r x) x r)
def redQ : Mx → List Int → List Int
  | [], _ => []
  | r :: F, x => stepQ r x :: redQ F (subK (stepQ r x) x r)
theorem redX_snoc (r : List Int) : ∀ (F : Mx) (x : List Int), redX (F ++ [r]) x = subK (stepQ r (redX F x)) (redX F x) r
  | [], x => rfl
  | f :: F, x => by rw [List.cons_append, redX, redX, redX_snoc r F]
theorem redQ_snoc (r : List Int) : ∀ (F : Mx) (x : List Int), redQ (F ++ [r]) x = redQ F x ++ [stepQ r (redX F x)]
  | [], x => rfl
  | f :: F, x => by rw [List.cons_append, redQ, redQ, redX, redQ_snoc r F]; rfl
@[simp] theorem redX_length : ∀ (F : Mx) (x : List Int), (redX F x).length = x.length
  | [], x => rfl
  | f :: F, x => by rw [redX, redX_length F]; simp
@[simp] theorem redQ_length : ∀ (F : Mx) (x : List Int), (redQ F x).length = F.length
  | [], x => rfl
  | f :: F, x => by rw [redQ, List.length_cons, redQ_length F]; rfl
theorem redX_take {F : Mx} {i : Nat} (h : i < F.length) (x : List Int) : redX (F.take (i + 1)) x = subK (stepQ (F.getD i []) (redX (F.take i) x)) (redX (F.take i) x) (F.getD i []) := by
  rw [take_snocM h, redX_snoc, getD_get h]
theorem redQ_take {F : Mx} {i : Nat} (h : i < F.length) (x : List Int) : redQ (F.take (i + 1)) x = redQ (F.take i) x ++ [stepQ (F.getD i []) (redX (F.take i) x)] := by
  rw [take_snocM h, redQ_snoc, getD_get h]
/-- Each row has an element that is not 0. -/
def Piv (F : Mx) : Prop := ∀ i, i < F.length → (F.getD i []).getD (pv (F.getD i [])) 0 ≠ 0
theorem IsH.piv {n : Nat} {ps : List Nat} {F : Mx} (h : IsH n ps F) : Piv F := by
  intro i hi
  have e := isH_pv h
  have := h.pos i hi
  rw [e, getD_map pv F i hi 0 []] at this
  have h2 : eM F i (pv (F.getD i [])) ≠ 0 := by omega
  exact h2
theorem stepQ_abs {r x : List Int} (h : r.getD (pv r) 0 ≠ 0) {B : Nat} (hB : 0 < B) (hx : ∀ z ∈ x, z.natAbs < B) : (stepQ r x).natAbs < B := by
  refine Nat.lt_of_le_of_lt (fdiv_abs _ h) ?_
  rw [List.getD_eq_getElem?_getD]
  rcases Nat.lt_or_ge (pv r) x.length with hl | hl
  · rw [List.getElem?_eq_getElem hl]; exact hx _ (List.getElem_mem hl)
  · rw [List.getElem?_eq_none hl]; simpa using hB
theorem redX_small {F : Mx} {x : List Int} (hP : Piv F) (hF : ∀ r ∈ F, ∀ z ∈ r, z.natAbs < 2 ^ 30) (hx : ∀ z ∈ x, z.natAbs < 2 ^ 30) : ∀ i, i ≤ F.length → ∀ z ∈ redX (F.take i) x, z.natAbs < 2 ^ (30 + 31 * i)
  | 0, _ => by simpa [redX] using hx
  | i + 1, h => by
    have ih := redX_small hP hF hx i (by omega)
    rw [redX_take (by omega)]
    have p0 : 0 < 2 ^ (30 + 31 * i) := Nat.pow_pos (by omega)
    have hq := stepQ_abs (hP i (by omega)) p0 ih
    generalize stepQ (F.getD i []) (redX (F.take i) x) = q at *
    refine subK_all q (Q := fun z => z.natAbs < 2 ^ (30 + 31 * i)) (R := fun z => z.natAbs < 2 ^ 30) ?_ ?_ _ _ ih (fun z hz => ?_)
    · intro z hz; exact Nat.lt_of_lt_of_le hz (Nat.pow_le_pow_right (by omega) (by omega))
    · intro y z hy hz
      have h1 : (q * z).natAbs ≤ 2 ^ (30 + 31 * i) * 2 ^ 30 := by
        rw [Int.natAbs_mul]; exact Nat.mul_le_mul (Nat.le_of_lt hq) (Nat.le_of_lt hz)
      have e : 2 ^ (30 + 31 * (i + 1)) = 2 ^ (30 + 31 * i) * 2 ^ 30 * 2 := by
        rw [show 30 + 31 * (i + 1) = (30 + 31 * i) + 30 + 1 by omega, Nat.pow_succ, Nat.pow_add]
      have h2 : 2 ^ (30 + 31 * i) ≤ 2 ^ (30 + 31 * i) * 2 ^ 30 := Nat.le_mul_of_pos_right _ (Nat.pow_pos (by omega))
      rw [e]
      have hy' : y.natAbs < 2 ^ (30 + 31 * i) := hy
      omega
    · rw [getD_get (by omega)] at hz
      exact hF _ (List.getElem_mem (by omega)) z hz
/-- The rest differs from the row by an element of the lattice. -/
theorem redX_span {n : Nat} : ∀ (F : Mx) (x : List Int), Rect n F → x.length = n → Span (latM F) (Hnf.sub (vr x) 1 (vr (redX F x)))
  | [], x, _, _ => by
    have e : Hnf.sub (vr x) 1 (vr (redX [] x)) = fun _ => 0 := by funext j; simp [Hnf.sub, redX]
    rw [e]; exact .zero
  | r :: F, x, hF, hx => by
    have hr : r.length = n := hF r (by simp)
    have ih := redX_span F (subK (stepQ r x) x r) (fun s hs => hF s (by simp [hs])) (by simp [hx])
    have h2 : Span (latM (r :: F)) (Hnf.sub (vr (subK (stepQ r x) x r)) 1 (vr (redX F (subK (stepQ r x) x r)))) := ih.mono fun v hv => by
      simp only [latM, List.map_cons]; exact List.mem_cons_of_mem _ hv
    have h3 := h2.step (-(stepQ r x)) (r := vr r) (by simp [latM])
    refine span_of_eq h3 fun j => ?_
    rw [redX, vr_sub _ (by omega)]
    simp only [Hnf.sub]; grind
theorem redX_keep {n : Nat} : ∀ (F : Mx) (x : List Int) (j : Nat), Rect n F → x.length = n → (∀ r ∈ F, r.getD j 0 = 0) → (redX F x).getD j 0 = x.getD j 0
  | [], x, j, _, _, _ => rfl
  | r :: F, x, j, hF, hx, hz => by
    have hr : r.length = n := hF r (by simp)
    rw [redX, redX_keep F _ j (fun s hs => hF s (by simp [hs])) (by simp [hx]) (fun s hs => hz s (by simp [hs])), subK_getD _ _ _ _ (by omega), hz r (by simp)]
    simp
/-- The rest is reduced at the pivots. -/
theorem redX_range {n : Nat} {ps : List Nat} {F : Mx} (h : IsH n ps F) {x : List Int} (hx : x.length = n) (i : Nat) (hi : i < F.length) : 0 ≤ (redX F x).getD (ps.getD i 0) 0 ∧ (redX F x).getD (ps.getD i 0) 0 < eM F i (ps.getD i 0) := by
  have e : redX F x = redX (F.drop (i + 1)) (redX (F.take (i + 1)) x) := by
    have : ∀ (A B : Mx) (y : List Int), redX (A ++ B) y = redX B (redX A y) := by
      intro A
      induction A with
      | nil => intro B y; rfl
      | cons a A ih => intro B y; rw [List.cons_append, redX, redX, ih]
    rw [← this, List.take_append_drop]
  have hl1 : (redX (F.take (i + 1)) x).length = n := by simp [hx]
  have hFi : (F.getD i []).length = n := by rw [getD_get hi]; exact h.rect _ (List.getElem_mem hi)
  rw [e, redX_keep (n := n) _ _ _ (fun s hs => h.rect s (List.mem_of_mem_drop hs)) hl1 (fun r hr => ?_), redX_take hi, subK_getD _ _ _ _ (by rw [hFi, redX_length, hx]; exact Nat.le_refl _)]
  · have hpi : ps.getD i 0 = pv (F.getD i []) := by rw [isH_pv h, getD_map pv F i hi 0 []]
    rw [hpi]
    have hpos := h.pos i hi
    rw [hpi] at hpos
    exact fdr_pos hpos
  · obtain ⟨t, ht, rfl⟩ := List.getElem_of_mem hr
    rw [List.getElem_drop]
    have ht' : i + 1 + t < F.length := by simp at ht; omega
    have := h.left (i + 1 + t) ht' (ps.getD i 0) (h.inc i (i + 1 + t) (by omega) ht')
    unfold eM at this
    rw [getD_get ht'] at this
    exact this
def zeroL (l : List Int) : Prop := ∀ z ∈ l, z = 0
theorem zero_vr {l : List Int} : zeroL l ↔ ∀ j, vr l j = 0 := by
  constructor
  · intro h j
    show l.getD j 0 = 0
    rw [List.getD_eq_getElem?_getD]
    rcases Nat.lt_or_ge j l.length with hj | hj
    · rw [List.getElem?_eq_getElem hj]; exact h _ (List.getElem_mem hj)
    · rw [List.getElem?_eq_none hj]; rfl
  · intro h z hz
    obtain ⟨j, hj, rfl⟩ := List.getElem_of_mem hz
    have := h j
    show l[j] = 0
    rw [← getD_get hj 0]; exact this
/-- A row belongs to the lattice just if nothing is left. -/
theorem redX_zero {n : Nat} {ps : List Nat} {F : Mx} (h : IsH n ps F) {x : List Int} (hx : x.length = n) : zeroL (redX F x) ↔ Span (latM F) (vr x) := by
  have hs := redX_span F x h.rect hx
  rw [zero_vr]
  constructor
  · intro hz
    refine span_of_eq hs fun j => ?_
    simp [Hnf.sub, hz j]
  · intro hv
    have hr : Span (latM F) (vr (redX F x)) := by
      refine span_of_eq (hv.sub 1 hs) fun j => ?_
      simp only [Hnf.sub]; omega
    rcases Hnf.first (vr (redX F x)) with h0 | ⟨j, hj, hz⟩
    · exact h0
    · exfalso
      rw [← wps_rows h.len] at hr
      obtain ⟨g, hg, e, hd⟩ := h.ech.lead hr hj hz
      obtain ⟨i, hi, rfl⟩ := wps_mem h.len hg
      simp only at e hd
      subst e
      have hrg := redX_range h hx i hi
      obtain ⟨c, hc⟩ := hd
      have hpos := h.pos i hi
      have hc' : (redX F x).getD (ps.getD i 0) 0 = eM F i (ps.getD i 0) * c := hc
      have hj' : (redX F x).getD (ps.getD i 0) 0 ≠ 0 := hj
      have hlt : (eM F i (ps.getD i 0) * c).natAbs < (eM F i (ps.getD i 0)).natAbs := by rw [← hc']; omega
      rw [Int.natAbs_mul] at hlt
      have hc0 : c.natAbs = 0 := by
        rcases Nat.eq_zero_or_pos c.natAbs with h | h
        · exact h
        · have := Nat.mul_le_mul_left (eM F i (ps.getD i 0)).natAbs h; omega
      have hcz : c = 0 := by omega
      rw [hcz, Int.mul_zero] at hc'
      exact hj' hc'
end Go.Proofs.YtcklioolpicmcaaGreatDoor
/- Plain: the form of a matrix with the unit matrix at its right: solutions, and the kernel. -/
namespace Go.Proofs.YtcklioolpicmcaaGreatDoor
open Hnf (V Span Ech Red)
/-- Lines without a second part. -/
def ln1 (M : Mx) : List Ln := M.map fun r => (r, [])
@[simp] theorem ln1_length (M : Mx) : (ln1 M).length = M.length := by simp [ln1]
theorem ln1_dim {n : Nat} {M : Mx} (h : Rect n M) : Dim n 0 (ln1 M) := by
  intro l hl
  obtain ⟨r, hr, rfl⟩ := List.mem_map.1 hl
  exact ⟨h r hr, rfl⟩
theorem ln1_lat (M : Mx) : latL (ln1 M) = latM M := by simp [latL, latM, ln1, Function.comp_def]
theorem form_of1 {n d : Nat} {ps : List Nat} {M : Mx} {ls : List Ln} (hM : Rect n M) (ho : Ops 0 (ln1 M) ls) (h : FormTo n d ps ls) : HnfOf n M (fRows d ls) := by
  have hd0 := ln1_dim hM
  have hd := hd0.ops ho
  have hl := ho.lat hd0
  rw [ln1_lat] at hl
  have hf := h.lat hd
  exact ⟨⟨ps, h.isH hd⟩, fun v hv => hl.1 v (hf.1 v hv), fun v hv => (hl.2 v hv).trans hf.2⟩
theorem FormTo.full {c c' d : Nat} {ps : List Nat} {ls : List Ln} (h : FormTo c d ps ls) (hd : d = ls.length) (hc : c ≤ c') : FormTo c' d ps ls :=
  ⟨h.len, h.le, fun i hi => by have := h.lt i hi; omega, h.inc, h.left, h.pos, h.red, fun i h1 h2 => by omega⟩
/-- Sums. -/
def sumZ (f : Nat → Int) : Nat → Int
  | 0 => 0
  | n + 1 => sumZ f n + f n
theorem sumZ_congr {f g : Nat → Int} : ∀ {n}, (∀ i, i < n → f i = g i) → sumZ f n = sumZ g n
  | 0, _ => rfl
  | n + 1, h => by rw [sumZ, sumZ, sumZ_congr (fun i hi => h i (by omega)), h n (by omega)]
theorem sumZ_zero {f : Nat → Int} : ∀ {n}, (∀ i, i < n → f i = 0) → sumZ f n = 0
  | 0, _ => rfl
  | n + 1, h => by rw [sumZ, sumZ_zero (fun i hi => h i (by omega)), h n (by omega)]; rfl
theorem sumZ_sub (f g : Nat → Int) : ∀ n, sumZ (fun i => f i - g i) n = sumZ f n - sumZ g n
  | 0 => rfl
  | n + 1 => by rw [sumZ, sumZ, sumZ, sumZ_sub f g n]; omega
theorem sumZ_mul (q : Int) (f : Nat → Int) : ∀ n, sumZ (fun i => q * f i) n = q * sumZ f n
  | 0 => by simp [sumZ]
  | n + 1 => by rw [sumZ, sumZ, sumZ_mul q f n, Int.mul_add]
theorem sumZ_one {f : Nat → Int} {k : Nat} : ∀ {n}, k < n → (∀ i, i < n → i ≠ k → f i = 0) → sumZ f n = f k
  | 0, h, _ => by omega
  | n + 1, h, hz => by
    rw [sumZ]
    by_cases e : k = n
    · subst e; rw [sumZ_zero (fun i hi => hz i (by omega) (by omega))]; omega
    · rw [sumZ_one (n := n) (by omega) (fun i hi => hz i (by omega)), hz n (by omega) (Ne.symm e)]; omega
/-- The combination of the rows of a matrix. -/
def cmb (M : Mx) (y : V) : V := fun j => sumZ (fun i => y i * eM M i j) M.length
theorem cmb_sub (M : Mx) (y z : V) (q : Int) (j : Nat) : cmb M (Hnf.sub y q z) j = cmb M y j - q * cmb M z j := by
  unfold cmb
  rw [← sumZ_mul, ← sumZ_sub]
  exact sumZ_congr fun i _ => by simp only [Hnf.sub]; grind
theorem cmb_congr {M : Mx} {y z : V} (h : ∀ i, i < M.length → y i = z i) (j : Nat) : cmb M y j = cmb M z j := sumZ_congr fun i hi => by rw [h i hi]
theorem cmb_zero (M : Mx) (j : Nat) : cmb M (fun _ => 0) j = 0 := sumZ_zero fun i _ => by simp
def wideM (M : Mx) : Mx := M.mapIdx fun i r => r ++ unitR M.length i
@[simp] theorem wideM_length (M : Mx) : (wideM M).length = M.length := by simp [wideM]
theorem wideM_get {M : Mx} {i : Nat} (h : i < M.length) : (wideM M)[i]'(by simpa using h) = M[i] ++ unitR M.length i := by simp [wideM]
theorem wideM_rect {c : Nat} {M : Mx} (h : Rect c M) : Rect (c + M.length) (wideM M) := by
  intro r hr
  obtain ⟨i, hi, rfl⟩ := List.getElem_of_mem hr
  rw [wideM_get (by simpa using hi), List.length_append, h _ (List.getElem_mem _)]
  simp [unitR]
theorem unitR_getD (m i j : Nat) : (unitR m i).getD j 0 = if j = i ∧ i < m then 1 else 0 := by
  unfold unitR
  rw [List.getD_eq_getElem?_getD, List.getElem?_set]
  by_cases e : i = j
  · subst e
    by_cases h : i < m
    · simp [h]
    · simp [h]
  · rw [if_neg e, if_neg (by omega), List.getElem?_replicate]
    split <;> rfl
theorem wide_vr {c : Nat} {M : Mx} (hR : Rect c M) {i : Nat} (h : i < M.length) (j : Nat) : vr ((wideM M)[i]'(by simpa using h)) j = if j < c then eM M i j else if j = c + i then 1 else 0 := by
  have hl : M[i].length = c := hR _ (List.getElem_mem h)
  rw [wideM_get h]
  unfold vr eM
  rw [getD_get h]
  simp only [List.getD_eq_getElem?_getD]
  by_cases hj : j < c
  · rw [if_pos hj, List.getElem?_append_left (by omega)]
  · rw [if_neg hj, List.getElem?_append_right (by omega), ← List.getD_eq_getElem?_getD, unitR_getD, hl]
    by_cases e : j = c + i
    · rw [if_pos e, if_pos (by omega)]
    · rw [if_neg e, if_neg (by omega)]
theorem eM_far {c : Nat} {M : Mx} (hR : Rect c M) {i j : Nat} (hj : c ≤ j) : eM M i j = 0 := by
  unfold eM
  rcases Nat.lt_or_ge i M.length with hi | hi
  · rw [getD_get hi, List.getD_eq_getElem?_getD, List.getElem?_eq_none (by rw [hR _ (List.getElem_mem hi)]; exact hj)]; rfl
  · simp only [List.getD_eq_getElem?_getD]; rw [List.getElem?_eq_none hi]; rfl
theorem eM_vr {M : Mx} {i : Nat} (h : i < M.length) (j : Nat) : eM M i j = vr M[i] j := by unfold eM vr; rw [getD_get h]
/-- What the lattice of the wide matrix is. -/
theorem wide_span {c : Nat} {M : Mx} (hR : Rect c M) {v : V} (h : Span (latM (wideM M)) v) : (∀ j, j < c → v j = cmb M (fun i => v (c + i)) j) ∧ ∀ j, c + M.length ≤ j → v j = 0 := by
  induction h with
  | zero => exact ⟨fun j _ => (cmb_zero M j).symm, fun _ _ => rfl⟩
  | @step v r q _ hr ih =>
    obtain ⟨x, hx, rfl⟩ := List.mem_map.1 hr
    obtain ⟨i, hi, rfl⟩ := List.getElem_of_mem hx
    have hi' : i < M.length := by simpa using hi
    refine ⟨fun j hj => ?_, fun j hj => ?_⟩
    · have e : (fun k => Hnf.sub v q (vr (wideM M)[i]) (c + k)) = Hnf.sub (fun k => v (c + k)) q (fun k => if k = i then 1 else 0) := by
        funext k
        simp only [Hnf.sub, wide_vr hR hi']
        rw [if_neg (by omega)]
        by_cases e : k = i
        · rw [if_pos (by omega), if_pos e]
        · rw [if_neg (by omega), if_neg e]
      rw [e, cmb_sub]
      have e2 : cmb M (fun k => if k = i then 1 else 0) j = eM M i j := by
        unfold cmb
        rw [sumZ_one (k := i) hi' (fun t _ ht => by simp only [if_neg ht]; simp)]
        simp
      rw [e2]
      simp only [Hnf.sub, wide_vr hR hi', if_pos hj, ← ih.1 j hj]
    · simp only [Hnf.sub, wide_vr hR hi', ih.2 j hj]
      rw [if_neg (by omega), if_neg (by omega)]; simp
theorem span_sum {M : List V} {f : Nat → V} (y : V) : ∀ {n : Nat}, (∀ i, i < n → Span M (f i)) → Span M (fun j => sumZ (fun i => y i * f i j) n)
  | 0, _ => .zero
  | n + 1, h => by
    have h1 := span_sum y (n := n) (fun i hi => h i (by omega))
    refine span_of_eq (h1.sub (-(y n)) (h n (by omega))) fun j => ?_
    simp only [Hnf.sub, sumZ]; grind
theorem span_wide {c : Nat} {M : Mx} (hR : Rect c M) {v : V} (h1 : ∀ j, j < c → v j = cmb M (fun i => v (c + i)) j) (h2 : ∀ j, c + M.length ≤ j → v j = 0) : Span (latM (wideM M)) v := by
  have hs := span_sum (M := latM (wideM M)) (f := fun i => vr ((wideM M).getD i [])) (fun i => v (c + i)) (n := M.length) (fun i hi => by
    rw [getD_get (by simpa using hi)]; exact .mem (List.mem_map.2 ⟨_, List.getElem_mem _, rfl⟩))
  refine span_of_eq hs fun j => ?_
  have e : ∀ i, i < M.length → v (c + i) * vr ((wideM M).getD i []) j = v (c + i) * (if j < c then eM M i j else if j = c + i then 1 else 0) := fun i hi => by
    rw [getD_get (by simpa using hi), wide_vr hR hi]
  rw [sumZ_congr e]
  by_cases hj : j < c
  · rw [h1 j hj]; unfold cmb; exact sumZ_congr fun i _ => by rw [if_pos hj]
  · by_cases hj2 : j < c + M.length
    · rw [sumZ_one (k := j - c) (by omega) (fun i hi hne => by rw [if_neg hj, if_neg (by omega)]; simp), if_neg hj, if_pos (by omega), show c + (j - c) = j by omega]; simp
    · rw [h2 j (by omega), sumZ_zero fun i hi => by rw [if_neg hj, if_neg (by omega)]; simp]
/-- The lattice of M: all combinations. -/
theorem span_cmb {M : Mx} {v : V} : Span (latM M) v ↔ ∃ y, v = cmb M y := by
  constructor
  · intro h
    induction h with
    | zero => exact ⟨fun _ => 0, by funext j; exact (cmb_zero M j).symm⟩
    | @step v r q _ hr ih =>
      obtain ⟨y, rfl⟩ := ih
      obtain ⟨x, hx, rfl⟩ := List.mem_map.1 hr
      obtain ⟨i, hi, rfl⟩ := List.getElem_of_mem hx
      refine ⟨Hnf.sub y q (fun k => if k = i then 1 else 0), ?_⟩
      funext j
      rw [cmb_sub]
      have e2 : cmb M (fun k => if k = i then 1 else 0) j = eM M i j := by
        unfold cmb
        rw [sumZ_one (k := i) hi (fun t _ ht => by simp only [if_neg ht]; simp)]
        simp
      rw [e2, eM_vr hi]; rfl
  · rintro ⟨y, rfl⟩
    have hs := span_sum (M := latM M) (f := fun i => vr (M.getD i [])) y (n := M.length) (fun i hi => by
      rw [getD_get hi]; exact .mem (List.mem_map.2 ⟨_, List.getElem_mem _, rfl⟩))
    exact hs
/-- The rows of a form whose pivots lie ahead of column c, and the others. -/
def upr (c : Nat) (H : Mx) : Mx := H.filter fun r => decide (pv r < c)
def low (c : Nat) (H : Mx) : Mx := H.filter fun r => !decide (pv r < c)
def krn (c : Nat) (H : Mx) : Mx := (low c H).map (List.drop c)
theorem split_at (P : Nat → Prop) (hm : ∀ i j, i < j → ¬ P i → ¬ P j) : ∀ k, ∃ u, u ≤ k ∧ (∀ i, i < u → P i) ∧ ∀ i, u ≤ i → i < k → ¬ P i
  | 0 => ⟨0, by omega, fun i h => by omega, fun i _ h => by omega⟩
  | k + 1 => by
    obtain ⟨u, hu, h1, h2⟩ := split_at P hm k
    by_cases hk : P k
    · have : u = k := Classical.byContradiction fun hne => hm u k (by omega) (h2 u (Nat.le_refl _) (by omega)) hk
      subst this
      exact ⟨u + 1, by omega, fun i hi => by
        rcases Nat.lt_or_ge i u with h | h
        · exact h1 i h
        · have : i = u := by omega
          subst this; exact hk, fun i h h' => by omega⟩
    · exact ⟨u, by omega, h1, fun i hi hik => by
        by_cases e : i = k
        · subst e; exact hk
        · exact h2 i hi (by omega)⟩
theorem filter_take {α : Type} {p : α → Bool} : ∀ {l : List α} {u : Nat}, (∀ i (h : i < l.length), i < u → p l[i] = true) → (∀ i (h : i < l.length), u ≤ i → p l[i] = false) → l.filter p = l.take u ∧ l.filter (fun a => !p a) = l.drop u
  | [], u, _, _ => by simp
  | a :: l, 0, _, h2 => by
    have ih := filter_take (l := l) (u := 0) (p := p) (fun i h hi => by omega) (fun i h _ => by have := h2 (i + 1) (by simpa using h) (by omega); simpa using this)
    have ha := h2 0 (by simp) (by omega)
    simp only [List.getElem_cons_zero] at ha
    rw [List.filter_cons_of_neg (by simp [ha]), List.filter_cons_of_pos (by simp [ha]), ih.1, ih.2]
    simp
  | a :: l, u + 1, h1, h2 => by
    have ih := filter_take (l := l) (u := u) (p := p) (fun i h hi => by have := h1 (i + 1) (by simpa using h) (by omega); simpa using this) (fun i h hi => by have := h2 (i + 1) (by simpa using h) (by omega); simpa using this)
    have ha := h1 0 (by simp) (by omega)
    simp only [List.getElem_cons_zero] at ha
    rw [List.filter_cons_of_pos ha, List.filter_cons_of_neg (by simp [ha]), ih.1, ih.2]
    simp
theorem IsH.pvs {n : Nat} {ps : List Nat} {H : Mx} (h : IsH n ps H) {i : Nat} (hi : i < H.length) : ps.getD i 0 = pv (H.getD i []) := by
  rw [isH_pv h, getD_map pv H i hi 0 []]
theorem IsH.split {n : Nat} {ps : List Nat} {H : Mx} (h : IsH n ps H) (c : Nat) : ∃ u, u ≤ H.length ∧ upr c H = H.take u ∧ low c H = H.drop u ∧ (∀ i, i < u → ps.getD i 0 < c) ∧ ∀ i, u ≤ i → i < H.length → c ≤ ps.getD i 0 := by
  obtain ⟨u, hu, h1, h2⟩ := split_at (fun i => i < H.length ∧ ps.getD i 0 < c) (fun i j hij hn hp => hn ⟨by omega, by have := h.inc i j hij hp.1; omega⟩) H.length
  have hf := filter_take (p := fun r => decide (pv r < c)) (l := H) (u := u) (fun i hi hiu => by
    have := (h1 i hiu).2
    rw [h.pvs hi, getD_get hi] at this
    exact decide_eq_true this) (fun i hi hiu => by
    have := h2 i hiu hi
    refine decide_eq_false fun hc => this ⟨hi, ?_⟩
    rw [h.pvs hi, getD_get hi]; exact hc)
  exact ⟨u, hu, hf.1, hf.2, fun i hi => (h1 i hi).2, fun i hi hl => Classical.byContradiction fun hc => h2 i hi hl ⟨hl, by omega⟩⟩
theorem subK_take (k : Int) (c : Nat) : ∀ (a b : List Int), b.length ≤ a.length → (subK k a b).take c = subK k (a.take c) (b.take c) := by
  induction c with
  | zero => intro a b _; simp [subK]
  | succ c ih =>
    intro a b h
    cases b with
    | nil => simp [subK_nil]
    | cons y b =>
      cases a with
      | nil => simp at h
      | cons x a => simp only [subK, List.take_succ_cons]; rw [ih a b (by simpa using h)]
theorem getD_take {l : List Int} {c j : Nat} (h : j < c) : (l.take c).getD j 0 = l.getD j 0 := by
  simp only [List.getD_eq_getElem?_getD, List.getElem?_take, if_pos h]
theorem getD_drop (l : List Int) (c j : Nat) : (l.drop c).getD j 0 = l.getD (c + j) 0 := by
  simp only [List.getD_eq_getElem?_getD, List.getElem?_drop]
theorem pv_take {r : List Int} {c : Nat} (h : pv r < c) (hr : pv r < r.length) : pv (r.take c) = pv r := by
  refine (pv_of (p := pv r) ?_ fun j hj => ?_).1
  · rw [getD_take h]; exact pv_ne hr
  · rw [getD_take (by omega)]; exact pv_zero hj
/-- The left part of the rest is the rest of the left part. -/
theorem redX_left {m c : Nat} : ∀ (U : Mx) (l : List Int), Rect m U → l.length = m → (∀ r ∈ U, pv r < c ∧ pv r < m) → (redX U l).take c = redX (U.map (List.take c)) (l.take c)
  | [], l, _, _, _ => rfl
  | r :: U, l, hR, hl, hp => by
    have hr : r.length = m := hR r (by simp)
    obtain ⟨p1, p2⟩ := hp r (by simp)
    rw [redX, List.map_cons, redX, redX_left U _ (fun s hs => hR s (by simp [hs])) (by simp [hl]) (fun s hs => hp s (by simp [hs])), subK_take _ _ _ _ (by omega)]
    have e : stepQ (r.take c) (l.take c) = stepQ r l := by
      unfold stepQ
      rw [pv_take p1 (by omega), getD_take p1, getD_take p1]
    rw [e]
theorem eM_map_take {c : Nat} {H : Mx} {i j : Nat} (hj : j < c) : eM (H.map (List.take c)) i j = eM H i j := by
  unfold eM
  rcases Nat.lt_or_ge i H.length with hi | hi
  · rw [getD_map (List.take c) H i hi [] [], getD_take hj]
  · rw [show (H.map (List.take c)).getD i [] = [] by rw [List.getD_eq_getElem?_getD, List.getElem?_eq_none (by simpa using hi)]; rfl, show H.getD i [] = [] by rw [List.getD_eq_getElem?_getD, List.getElem?_eq_none hi]; rfl]
theorem eM_map_drop {c : Nat} {H : Mx} {i j : Nat} : eM (H.map (List.drop c)) i j = eM H i (c + j) := by
  unfold eM
  rcases Nat.lt_or_ge i H.length with hi | hi
  · rw [getD_map (List.drop c) H i hi [] [], getD_drop]
  · rw [show (H.map (List.drop c)).getD i [] = [] by rw [List.getD_eq_getElem?_getD, List.getElem?_eq_none (by simpa using hi)]; rfl, show H.getD i [] = [] by rw [List.getD_eq_getElem?_getD, List.getElem?_eq_none hi]; rfl]; rfl
theorem eM_take {H : Mx} {u i j : Nat} (h : i < u) : eM (H.take u) i j = eM H i j := by
  unfold eM; simp only [List.getD_eq_getElem?_getD, List.getElem?_take, if_pos h]
theorem eM_drop {H : Mx} {u i j : Nat} : eM (H.drop u) i j = eM H (u + i) j := by
  unfold eM; simp only [List.getD_eq_getElem?_getD, List.getElem?_drop]
theorem getD_takeN {l : List Nat} {u i : Nat} (h : i < u) : (l.take u).getD i 0 = l.getD i 0 := by
  simp only [List.getD_eq_getElem?_getD, List.getElem?_take, if_pos h]
theorem IsH.takeU {n u : Nat} {ps : List Nat} {H : Mx} (h : IsH n ps H) (hu : u ≤ H.length) : IsH n (ps.take u) (H.take u) := by
  have hl : (H.take u).length = u := by simp; omega
  have hp := h.len
  refine ⟨fun r hr => h.rect r (List.mem_of_mem_take hr), by simp; omega, fun i hi => ?_, fun i k hik hk => ?_, fun i hi j hj => ?_, fun i hi => ?_, fun i k hik hk => ?_⟩
  · rw [getD_takeN (by omega)]; exact h.lt i (by omega)
  · rw [getD_takeN (by omega), getD_takeN (by omega)]; exact h.inc i k hik (by omega)
  · rw [getD_takeN (by omega)] at hj; rw [eM_take (by omega)]; exact h.left i (by omega) j hj
  · rw [getD_takeN (by omega), eM_take (by omega)]; exact h.pos i (by omega)
  · rw [getD_takeN (by omega), eM_take (by omega), eM_take (by omega)]; exact h.red i k hik (by omega)
theorem IsH.leftU {n c u : Nat} {ps : List Nat} {H : Mx} (h : IsH n ps H) (hc : c ≤ n) (hu : u ≤ H.length) (hp : ∀ i, i < u → ps.getD i 0 < c) : IsH c (ps.take u) ((H.take u).map (List.take c)) := by
  have hl : ((H.take u).map (List.take c)).length = u := by simp; omega
  have hpl := h.len
  refine ⟨fun r hr => ?_, by simp; omega, fun i hi => ?_, fun i k hik hk => ?_, fun i hi j hj => ?_, fun i hi => ?_, fun i k hik hk => ?_⟩
  · obtain ⟨s, hs, rfl⟩ := List.mem_map.1 hr
    rw [List.length_take, h.rect s (List.mem_of_mem_take hs)]; omega
  · rw [getD_takeN (by omega)]; exact hp i (by omega)
  · rw [getD_takeN (by omega), getD_takeN (by omega)]; exact h.inc i k hik (by omega)
  · rw [getD_takeN (by omega)] at hj
    have := hp i (by omega)
    rw [eM_map_take (by omega), eM_take (by omega)]; exact h.left i (by omega) j hj
  · rw [getD_takeN (by omega), eM_map_take (hp i (by omega)), eM_take (by omega)]; exact h.pos i (by omega)
  · rw [getD_takeN (by omega), eM_map_take (hp k (by omega)), eM_map_take (hp k (by omega)), eM_take (by omega), eM_take (by omega)]; exact h.red i k hik (by omega)
theorem IsH.rightD {n c m u : Nat} {ps : List Nat} {H : Mx} (h : IsH n ps H) (hn : n = c + m) (hu : u ≤ H.length) (hp : ∀ i, u ≤ i → i < H.length → c ≤ ps.getD i 0) : IsH m ((ps.drop u).map (fun p => p - c)) ((H.drop u).map (List.drop c)) := by
  have hl : ((H.drop u).map (List.drop c)).length = H.length - u := by simp
  have hpl := h.len
  have hps : ∀ i, i < H.length - u → ((ps.drop u).map (fun p => p - c)).getD i 0 = ps.getD (u + i) 0 - c := fun i hi => by
    rw [List.getD_eq_getElem?_getD, List.getElem?_map, List.getElem?_drop, List.getElem?_eq_getElem (by omega), getD_get (by omega)]; rfl
  refine ⟨fun r hr => ?_, by simp; omega, fun i hi => ?_, fun i k hik hk => ?_, fun i hi j hj => ?_, fun i hi => ?_, fun i k hik hk => ?_⟩
  · obtain ⟨s, hs, rfl⟩ := List.mem_map.1 hr
    rw [List.length_drop, h.rect s (List.mem_of_mem_drop hs)]; omega
  · rw [hps i (by omega)]; have := h.lt (u + i) (by omega); have := hp (u + i) (by omega) (by omega); omega
  · rw [hps i (by omega), hps k (by omega)]
    have := h.inc (u + i) (u + k) (by omega) (by omega)
    have := hp (u + i) (by omega) (by omega); omega
  · rw [hps i (by omega)] at hj
    rw [eM_map_drop, eM_drop]; exact h.left (u + i) (by omega) _ (by omega)
  · rw [hps i (by omega), eM_map_drop, eM_drop]
    have := hp (u + i) (by omega) (by omega)
    rw [show c + (ps.getD (u + i) 0 - c) = ps.getD (u + i) 0 by omega]; exact h.pos (u + i) (by omega)
  · have := hp (u + k) (by omega) (by omega)
    rw [hps k (by omega), eM_map_drop, eM_map_drop, eM_drop, eM_drop, show c + (ps.getD (u + k) 0 - c) = ps.getD (u + k) 0 by omega]; exact h.red (u + i) (u + k) (by omega) (by omega)
end Go.Proofs.YtcklioolpicmcaaGreatDoor
/- Plain: the laws of Solve and of Kernel. -/
namespace Go.Proofs.YtcklioolpicmcaaGreatDoor
open Hnf (V Span Ech Red)
theorem vr_far {l : List Int} {j : Nat} (h : l.length ≤ j) : vr l j = 0 := by
  show l.getD j 0 = 0
  rw [List.getD_eq_getElem?_getD, List.getElem?_eq_none h]; rfl
theorem vr_take {l : List Int} {c : Nat} (j : Nat) : vr (l.take c) j = if j < c then vr l j else 0 := by
  by_cases h : j < c
  · rw [if_pos h]; exact getD_take h
  · rw [if_neg h]; exact vr_far (by simp; omega)
theorem vr_drop (l : List Int) (c j : Nat) : vr (l.drop c) j = vr l (c + j) := getD_drop l c j
/-- The part of an element of a lattice that lies ahead of column c. -/
theorem span_cut {c : Nat} {A B : List V} (hAB : ∀ r ∈ A, Span B (fun j => if j < c then r j else 0)) {v : V} (h : Span A v) : Span B (fun j => if j < c then v j else 0) := by
  induction h with
  | zero => exact span_of_eq .zero fun j => by simp
  | @step v r q _ hr ih =>
    refine span_of_eq (ih.sub q (hAB r hr)) fun j => ?_
    simp only [Hnf.sub]; split <;> simp
theorem span_shift {c : Nat} {A B : List V} (hAB : ∀ r ∈ A, Span B (fun j => r (c + j))) {v : V} (h : Span A v) : Span B (fun j => v (c + j)) := by
  induction h with
  | zero => exact .zero
  | @step v r q _ hr ih => exact ih.sub q (hAB r hr)
theorem lat_at {H : Mx} {v : V} (h : v ∈ latM H) : ∃ i, i < H.length ∧ v = vr (H.getD i []) := by
  obtain ⟨r, hr, rfl⟩ := List.mem_map.1 h
  obtain ⟨i, hi, rfl⟩ := List.getElem_of_mem hr
  exact ⟨i, hi, by rw [getD_get hi]⟩
theorem eM_vrD (H : Mx) (i j : Nat) : vr (H.getD i []) j = eM H i j := rfl
/-- The left parts of the upper rows are the form of M's lattice. -/
theorem left_form {c : Nat} {M H : Mx} (hM : Rect c M) (hH : HnfOf (c + M.length) (wideM M) H) :
    ∃ qs, IsH c qs ((upr c H).map (List.take c)) ∧ (∀ v ∈ latM ((upr c H).map (List.take c)), Span (latM M) v) ∧ (∀ v ∈ latM M, Span (latM ((upr c H).map (List.take c))) v) := by
  obtain ⟨⟨ps, hI⟩, h1, h2⟩ := hH
  obtain ⟨u, hu, e1, e2, p1, p2⟩ := hI.split c
  rw [e1]
  refine ⟨ps.take u, hI.leftU (by omega) hu p1, fun v hv => ?_, fun v hv => ?_⟩
  · obtain ⟨r, hr, rfl⟩ := List.mem_map.1 hv
    obtain ⟨s, hs, rfl⟩ := List.mem_map.1 hr
    have hw := wide_span hM (h1 _ (List.mem_map.2 ⟨s, List.mem_of_mem_take hs, rfl⟩))
    refine span_cmb.2 ⟨fun i => vr s (c + i), ?_⟩
    funext j
    rw [vr_take]
    by_cases hj : j < c
    · rw [if_pos hj]; exact hw.1 j hj
    · rw [if_neg hj]; exact (sumZ_zero fun i _ => by rw [eM_far hM (by omega)]; simp).symm
  · obtain ⟨r, hr, rfl⟩ := List.mem_map.1 hv
    obtain ⟨i, hi, rfl⟩ := List.getElem_of_mem hr
    have hW : Span (latM H) (vr ((wideM M)[i]'(by simpa using hi))) := h2 _ (List.mem_map.2 ⟨_, List.getElem_mem _, rfl⟩)
    have hc := span_cut (c := c) (B := latM ((H.take u).map (List.take c))) (fun r hr => by
      obtain ⟨k, hk, rfl⟩ := lat_at hr
      by_cases hku : k < u
      · refine .mem (List.mem_map.2 ⟨(H.getD k []).take c, List.mem_map.2 ⟨H.getD k [], ?_, rfl⟩, ?_⟩)
        · rw [getD_get hk]
          have : k < (H.take u).length := by simp; omega
          have h3 := List.getElem_mem this
          rwa [List.getElem_take] at h3
        · funext j; exact vr_take j
      · refine span_of_eq .zero fun j => ?_
        by_cases hj : j < c
        · rw [if_pos hj, eM_vrD]; exact hI.left k hk j (by have := p2 k (by omega) hk; omega)
        · rw [if_neg hj]) hW
    refine span_of_eq hc fun j => ?_
    rw [wide_vr hM hi]
    by_cases hj : j < c
    · rw [if_pos hj, if_pos hj, eM_vr hi]
    · rw [if_neg hj, ← eM_vr hi, eM_far hM (by omega)]
theorem upr_rows {c m : Nat} {ps : List Nat} {H : Mx} (hI : IsH m ps H) : Rect m (upr c H) ∧ ∀ r ∈ upr c H, pv r < c ∧ pv r < m := by
  refine ⟨fun r hr => hI.rect r (List.mem_filter.1 hr).1, fun r hr => ?_⟩
  obtain ⟨h1, h2⟩ := List.mem_filter.1 hr
  refine ⟨of_decide_eq_true h2, ?_⟩
  obtain ⟨i, hi, rfl⟩ := List.getElem_of_mem h1
  have := hI.lt i hi
  rwa [hI.pvs hi, getD_get hi] at this
/-- The row with zeros at its right, reduced by the upper rows. -/
def solL (c : Nat) (H : Mx) (n : Nat) (b : List Int) : List Int := redX (upr c H) (b ++ List.replicate n 0)
@[simp] theorem solL_length (c : Nat) (H : Mx) (n : Nat) (b : List Int) : (solL c H n b).length = b.length + n := by simp [solL]
theorem vr_zeros (b : List Int) (n j : Nat) : vr (b ++ List.replicate n 0) j = if j < b.length then vr b j else 0 := by
  unfold vr
  simp only [List.getD_eq_getElem?_getD]
  by_cases hj : j < b.length
  · rw [if_pos hj, List.getElem?_append_left hj]
  · rw [if_neg hj, List.getElem?_append_right (by omega), List.getElem?_replicate]; split <;> rfl
theorem sol_zero {c : Nat} {M H : Mx} {b : List Int} (hM : Rect c M) (hH : HnfOf (c + M.length) (wideM M) H) (hb : b.length = c) : zeroL ((solL c H M.length b).take c) ↔ Span (latM M) (vr b) := by
  obtain ⟨qs, hU, a1, a2⟩ := left_form hM hH
  obtain ⟨⟨ps, hI⟩, h1, h2⟩ := hH
  have hr := upr_rows (c := c) hI
  unfold solL
  rw [redX_left _ _ hr.1 (by simp [hb]) hr.2, List.take_left' hb, redX_zero hU hb]
  exact ⟨fun h => h.trans a1, fun h => h.trans a2⟩
def negM (l : List Int) : List Int := l.map fun z => -z
@[simp] theorem negM_length (l : List Int) : (negM l).length = l.length := by simp [negM]
theorem vr_negM (l : List Int) (j : Nat) : vr (negM l) j = -vr l j := by
  have := congrFun (vr_neg l) j
  simp only [Hnf.sub] at this
  show vr (l.map fun z => -z) j = _
  omega
theorem sol_cmb {c : Nat} {M H : Mx} {b : List Int} (hM : Rect c M) (hH : HnfOf (c + M.length) (wideM M) H) (hb : b.length = c) (hz : zeroL ((solL c H M.length b).take c)) : ∀ j, j < c → cmb M (vr (negM ((solL c H M.length b).drop c))) j = vr b j := by
  intro j hj
  obtain ⟨⟨ps, hI⟩, h1, h2⟩ := hH
  have hr := upr_rows (c := c) hI
  have hs := redX_span (n := c + M.length) (upr c H) (b ++ List.replicate M.length 0) hr.1 (by simp [hb])
  have hs2 := (hs.mono (N := latM H) fun v hv => by
    obtain ⟨r, hr, rfl⟩ := List.mem_map.1 hv
    exact List.mem_map.2 ⟨r, (List.mem_filter.1 hr).1, rfl⟩).trans h1
  have hw := (wide_span hM hs2).1 j hj
  have e : redX (upr c H) (b ++ List.replicate M.length 0) = solL c H M.length b := rfl
  rw [e] at hw
  have z0 := zero_vr.1 hz j
  rw [vr_take, if_pos hj] at z0
  simp only [Hnf.sub] at hw
  rw [z0, vr_zeros, hb, if_pos hj] at hw
  have e2 : (fun i => vr (b ++ List.replicate M.length 0) (c + i) - 1 * vr (solL c H M.length b) (c + i)) = vr (negM ((solL c H M.length b).drop c)) := by
    funext i
    rw [vr_negM, vr_drop, vr_zeros, hb, if_neg (by omega)]; omega
  rw [e2] at hw
  omega
theorem ech_drop : ∀ (k : Nat) {F : List (Nat × V)} {b : Nat}, Ech b F → ∃ b', Ech b' (F.drop k)
  | 0, F, b, h => ⟨b, h⟩
  | k + 1, [], b, h => ⟨b, h⟩
  | k + 1, (p, f) :: F, b, h => by obtain ⟨_, _, _, h4⟩ := h; exact ech_drop k h4
theorem span_tail {F : List (Nat × V)} {b : Nat} (hE : Ech b F) {v : V} (hv : Span (Hnf.rows F) v) : ∀ u, u ≤ F.length → (∀ i, i < u → ∀ (h : i < F.length), v (F[i]).1 = 0) → Span (Hnf.rows (F.drop u)) v
  | 0, _, _ => hv
  | u + 1, hu, hz => by
    have ih := span_tail hE hv u (by omega) (fun i hi h => hz i (by omega) h)
    obtain ⟨b', hb'⟩ := ech_drop u hE
    rw [List.drop_eq_getElem_cons (by omega)] at ih hb'
    obtain ⟨p, hp⟩ : ∃ p, p = F[u]'(by omega) := ⟨_, rfl⟩
    have h0 := hz u (by omega) (by omega)
    rw [← hp] at ih hb' h0
    obtain ⟨p1, p2⟩ := p
    exact hb'.tail ih h0
/-- The lower rows' right parts are the form of the lattice of all combinations that are zero. -/
theorem krn_form {c : Nat} {M H : Mx} (hM : Rect c M) (hH : HnfOf (c + M.length) (wideM M) H) :
    ∃ qs, IsH M.length qs (krn c H) ∧ ∀ y : V, Span (latM (krn c H)) y ↔ (∀ j, j < c → cmb M y j = 0) ∧ ∀ i, M.length ≤ i → y i = 0 := by
  obtain ⟨⟨ps, hI⟩, h1, h2⟩ := hH
  obtain ⟨u, hu, e1, e2, p1, p2⟩ := hI.split c
  have hK : krn c H = (H.drop u).map (List.drop c) := by unfold krn; rw [e2]
  rw [hK]
  have hD := hI.rightD (m := M.length) rfl hu p2
  refine ⟨_, hD, fun y => ⟨fun h => ?_, fun h => ?_⟩⟩
  · induction h with
    | zero => exact ⟨fun j _ => cmb_zero M j, fun _ _ => rfl⟩
    | @step v r q _ hr ih =>
      obtain ⟨x, hx, rfl⟩ := List.mem_map.1 hr
      obtain ⟨s, hs, rfl⟩ := List.mem_map.1 hx
      obtain ⟨k, hk, rfl⟩ := List.getElem_of_mem hs
      have hk' : u + k < H.length := by simp at hk; omega
      rw [List.getElem_drop] at hx hr ⊢
      have hw := wide_span hM (h1 _ (List.mem_map.2 ⟨H[u + k], List.getElem_mem hk', rfl⟩))
      refine ⟨fun j hj => ?_, fun i hi => ?_⟩
      · rw [cmb_sub, ih.1 j hj]
        have e3 : vr (List.drop c H[u + k]) = fun i => vr H[u + k] (c + i) := by funext i; exact vr_drop _ _ _
        rw [e3, ← hw.1 j hj]
        have := hI.left (u + k) hk' j (by have := p2 (u + k) (by omega) hk'; omega)
        rw [eM_vr hk'] at this
        rw [this]; simp
      · simp only [Hnf.sub]
        rw [ih.2 i hi, vr_drop, hw.2 _ (by omega)]; simp
  · have hv : Span (latM (wideM M)) (fun j => if j < c then 0 else y (j - c)) := by
      refine span_wide hM (fun j hj => ?_) fun j hj => ?_
      · rw [if_pos hj]
        have e3 : (fun i => if c + i < c then (0 : Int) else y (c + i - c)) = y := by funext i; rw [if_neg (by omega), Nat.add_sub_cancel_left]
        rw [e3, h.1 j hj]
      · rw [if_neg (by omega)]; exact h.2 _ (by omega)
    have hH2 := hv.trans h2
    rw [← wps_rows hI.len] at hH2
    have ht := span_tail hI.ech hH2 u (by simp [wps, hI.len]; omega) (fun i hi h => by
      have hpi : ((wps ps H)[i]'h).1 = ps.getD i 0 := by
        have hil : i < ps.length := by rw [hI.len]; omega
        rw [getD_get hil]; simp [wps]
      rw [hpi, if_pos (p1 i hi)])
    have e3 : Hnf.rows ((wps ps H).drop u) = latM (H.drop u) := by
      have := wps_rows hI.len
      unfold Hnf.rows at this ⊢
      rw [List.map_drop, this]; simp [latM, List.map_drop]
    rw [e3] at ht
    have hsh := span_shift (c := c) (B := latM ((H.drop u).map (List.drop c))) (fun r hr => by
      obtain ⟨s, hs, rfl⟩ := List.mem_map.1 hr
      refine .mem (List.mem_map.2 ⟨s.drop c, List.mem_map.2 ⟨s, hs, rfl⟩, ?_⟩)
      funext j; exact vr_drop _ _ _) ht
    refine span_of_eq hsh fun j => ?_
    rw [if_neg (by omega), Nat.add_sub_cancel_left]
/-- What Solve returns where there is something to return. -/
def solX (c : Nat) (H : Mx) (n : Nat) (b : List Int) : List Int := redX (krn c H) (negM ((solL c H n b).drop c))
theorem solX_length {c n : Nat} {H : Mx} {b : List Int} (hb : b.length = c) : (solX c H n b).length = n := by
  unfold solX
  rw [redX_length, negM_length, List.length_drop, solL_length, hb]; omega
theorem solX_cmb {c : Nat} {M H : Mx} {b : List Int} (hM : Rect c M) (hH : HnfOf (c + M.length) (wideM M) H) (hb : b.length = c) (hz : zeroL ((solL c H M.length b).take c)) : ∀ j, j < c → cmb M (vr (solX c H M.length b)) j = vr b j := by
  intro j hj
  obtain ⟨qs, hK, hS⟩ := krn_form hM hH
  have h0 : (negM ((solL c H M.length b).drop c)).length = M.length := by simp [hb]
  have hs := redX_span (krn c H) _ hK.rect h0
  have := ((hS _).1 hs).1 j hj
  rw [cmb_sub, sol_cmb hM hH hb hz j hj] at this
  unfold solX
  omega
end Go.Proofs.YtcklioolpicmcaaGreatDoor
