/- Part 28 of the proof of the claim: contracts of the functions that it reaches, and plain laws; no condition. -/
import Derived.Test.YtokjolmpdfmnbaaGreatDoorW24
import Derived.Test.YtokjolmpdfmnbaaGreatDoorW27
namespace Go.Proofs.YtokjolmpdfmnbaaGreatDoor
structure ShD (n c : Nat) (s : Dg) : Prop where
  la : s.a.length = n
  ra : Rect c s.a
  ll : s.l.length = n
  rl : Rect n s.l
  lr : s.r.length = c
  rr : Rect c s.r
theorem el_row {A : Mx} {i : Nat} (h : A.length ≤ i) (k : Nat) : eM A i k = 0 := by
  unfold eM; rw [show A.getD i [] = [] by rw [List.getD_eq_getElem?_getD, List.getElem?_eq_none h]; rfl]; simp
theorem rlen {A : Mx} {c i : Nat} (h : Rect c A) (hi : i < A.length) : (A.getD i []).length = c := by rw [getD_get hi]; exact h _ (List.getElem_mem hi)
theorem el_col {A : Mx} {c k : Nat} (h : Rect c A) (hk : c ≤ k) (i : Nat) : eM A i k = 0 := by
  rcases Nat.lt_or_ge i A.length with hi | hi
  · unfold eM; rw [List.getD_eq_getElem?_getD, List.getElem?_eq_none (by rw [rlen h hi]; exact hk)]; rfl
  · exact el_row hi k
theorem fdiv0 (p : Int) : (0 : Int).fdiv p = 0 := Int.zero_fdiv p
theorem clear_parts {n c t : Nat} {s : Dg} (h : ShD n c s) (ht : t < n) (htc : t < c) :
    ShD n c (clearD n c t s)
    ∧ (∀ i k, eM (clearD n c t s).a i k = (if t < i then eM s.a i k - qR s t i * eM s.a t k else eM s.a i k) - (if t < k then qC s t k * (if t < i then eM s.a i t - qR s t i * eM s.a t t else eM s.a i t) else 0))
    ∧ (∀ i k, eM (clearD n c t s).l i k = if t < i then eM s.l i k - qR s t i * eM s.l t k else eM s.l i k)
    ∧ (∀ i k, eM (clearD n c t s).r i k = if t < k then eM s.r i k - qC s t k * eM s.r i t else eM s.r i k) := by
  obtain ⟨la, ra, ll, rl, lr, rr⟩ := h
  obtain ⟨l1, l2, l3⟩ := rowsTo_len t s (n - (t + 1))
  have hrow := fun i => rowsTo_row t s (by omega) (n - (t + 1)) (by omega) i
  have hq0 : ∀ i, n ≤ i → qR s t i = 0 := fun i hi => by unfold qR; rw [el_row (by omega), fdiv0]
  have hc0 : ∀ k, c ≤ k → qC s t k = 0 := fun k hk => by unfold qC; rw [el_col ra hk, fdiv0]
  have hR1 : Rect c (rowsTo t (n - (t + 1)) s).a := fun r hr2 => by
    obtain ⟨i, hi, rfl⟩ := List.getElem_of_mem hr2
    have h4 := (hrow i).1
    rw [getD_get hi] at h4
    have hl2 : (s.a.getD i []).length = c := rlen ra (by omega)
    rw [h4]
    split
    · rw [subK_length]; exact hl2
    · exact hl2
  have hR2 : Rect n (rowsTo t (n - (t + 1)) s).l := fun r hr2 => by
    obtain ⟨i, hi, rfl⟩ := List.getElem_of_mem hr2
    have h4 := (hrow i).2
    rw [getD_get hi] at h4
    have hl2 : (s.l.getD i []).length = n := rlen rl (by omega)
    rw [h4]
    split
    · rw [subK_length]; exact hl2
    · exact hl2
  have hb : ∀ i k, eM (rowsTo t (n - (t + 1)) s).a i k = if t < i then eM s.a i k - qR s t i * eM s.a t k else eM s.a i k := by
    intro i k
    by_cases hi : i < n
    · show ((rowsTo t (n - (t + 1)) s).a.getD i []).getD k 0 = _
      rw [(hrow i).1]
      by_cases h3 : t < i
      · rw [if_pos ⟨h3, by omega⟩, if_pos h3, subK_getD _ _ _ _ (by rw [rlen ra (by omega), rlen ra (by omega)]; exact Nat.le_refl _)]; rfl
      · rw [if_neg (fun h => h3 h.1), if_neg h3]; rfl
    · rw [el_row (by omega), hq0 i (by omega), el_row (by omega)]; simp
  have hbl : ∀ i k, eM (rowsTo t (n - (t + 1)) s).l i k = if t < i then eM s.l i k - qR s t i * eM s.l t k else eM s.l i k := by
    intro i k
    by_cases hi : i < n
    · show ((rowsTo t (n - (t + 1)) s).l.getD i []).getD k 0 = _
      rw [(hrow i).2]
      by_cases h3 : t < i
      · rw [if_pos ⟨h3, by omega⟩, if_pos h3, subK_getD _ _ _ _ (by rw [rlen rl (by omega), rlen rl (by omega)]; exact Nat.le_refl _)]; rfl
      · rw [if_neg (fun h => h3 h.1), if_neg h3]; rfl
    · rw [el_row (by omega), hq0 i (by omega), el_row (by omega)]; simp
  obtain ⟨i1, i2, i3⟩ := colsTo_map t c (rowsTo t (n - (t + 1)) s) hR1 (by omega) (c - (t + 1)) (by omega)
  have hqC : ∀ k, qC (rowsTo t (n - (t + 1)) s) t k = qC s t k := fun k => by
    unfold qC; rw [hb, hb, if_neg (by omega), if_neg (by omega)]
  have e0 : clearD n c t s = colsTo t (c - (t + 1)) (rowsTo t (n - (t + 1)) s) := rfl
  refine ⟨⟨?_, ?_, ?_, ?_, ?_, ?_⟩, ?_, ?_, ?_⟩
  · rw [e0, i1, List.length_map]; omega
  · rw [e0, i1]; intro r hr
    obtain ⟨l, hl, rfl⟩ := List.mem_map.1 hr
    rw [colA_length]; exact hR1 l hl
  · rw [e0, i2]; omega
  · rw [e0, i2]; exact hR2
  · rw [e0, i3, List.length_map, l3]; exact lr
  · rw [e0, i3, l3]; intro r hr
    obtain ⟨l, hl, rfl⟩ := List.mem_map.1 hr
    rw [colA_length]; exact rr l hl
  · intro i k
    rw [e0, i1, eM_map _ (by simp [colA]), colA_getD]
    by_cases hi : i < n
    · rw [show ((rowsTo t (n - (t + 1)) s).a.getD i []).length = c from rlen hR1 (by omega)]
      by_cases hk : k < c
      · rw [if_pos hk]
        by_cases h3 : t < k
        · rw [if_pos ⟨h3, by omega⟩, if_pos h3, hqC]
          show eM (rowsTo t (n - (t + 1)) s).a i k - _ * eM (rowsTo t (n - (t + 1)) s).a i t = _
          rw [hb, hb]
        · rw [if_neg (fun h => h3 h.1), if_neg h3]
          show eM (rowsTo t (n - (t + 1)) s).a i k = _
          rw [hb]; simp
      · rw [if_neg hk, el_col ra (by omega), el_col ra (by omega), hc0 k (by omega)]; simp
    · rw [show (rowsTo t (n - (t + 1)) s).a.getD i [] = [] by rw [List.getD_eq_getElem?_getD, List.getElem?_eq_none (by omega)]; rfl, if_neg (by simp)]
      rw [el_row (show s.a.length ≤ i by omega), el_row (show s.a.length ≤ i by omega), hq0 i (by omega)]; simp
  · intro i k; rw [e0, i2]; exact hbl i k
  · intro i k
    rw [e0, i3, l3, eM_map _ (by simp [colA]), colA_getD]
    by_cases hi : i < c
    · rw [show (s.r.getD i []).length = c from rlen rr (by omega)]
      by_cases hk : k < c
      · rw [if_pos hk]
        by_cases h3 : t < k
        · rw [if_pos ⟨h3, by omega⟩, if_pos h3, hqC]; rfl
        · rw [if_neg (fun h => h3 h.1), if_neg h3]; rfl
      · rw [if_neg hk, el_col rr (by omega), hc0 k (by omega)]; simp
    · rw [show s.r.getD i [] = [] by rw [List.getD_eq_getElem?_getD, List.getElem?_eq_none (by omega)]; rfl, if_neg (by simp), el_row (by omega), el_row (by omega)]; simp
def sx (a b x : Nat) : Nat := if x = b then a else if x = a then b else x
theorem rowSwap_el {A : Mx} {t i : Nat} (ht : t < A.length) (hi : i < A.length) (x y : Nat) : eM (rowSwap t i A) x y = eM A (sx t i x) y := by
  unfold eM
  rw [rowSwap_sw2, sw2_getD _ _ ht hi]
  unfold sx
  split
  · rfl
  · split <;> rfl
theorem colSwap_el {A : Mx} {c t k : Nat} (hA : Rect c A) (ht : t < c) (hk : k < c) (x y : Nat) : eM (colSwap t k A) x y = eM A x (sx t k y) := by
  rw [colSwap_map, eM_map _ (by simp [swapL])]
  by_cases hx : x < A.length
  · have hl := rlen hA hx
    unfold swapL
    rw [getD_set _ _ _ _ _ (by rw [List.length_set, hl]; exact hk), getD_set _ _ _ _ _ (by rw [hl]; exact ht)]
    unfold sx eM
    split
    · rfl
    · split <;> rfl
  · rw [el_row (by omega), show A.getD x [] = [] by rw [List.getD_eq_getElem?_getD, List.getElem?_eq_none (by omega)]; rfl]; simp [swapL]
theorem rect_rowSwap {A : Mx} {c t i : Nat} (h : Rect c A) (ht : t < A.length) (hi : i < A.length) : Rect c (rowSwap t i A) := rect_sw2 h ht hi
theorem rect_colSwap {A : Mx} {c t k : Nat} (h : Rect c A) : Rect c (colSwap t k A) := fun r hr => by
  obtain ⟨l, hl, rfl⟩ := List.mem_map.1 hr
  rw [swapL_length]; exact h l hl
theorem rowSwap_length (A : Mx) (t i : Nat) : (rowSwap t i A).length = A.length := by simp [rowSwap]
theorem colSwap_length (A : Mx) (t i : Nat) : (colSwap t i A).length = A.length := by simp [colSwap]
theorem swap_parts {n c t i k : Nat} {s : Dg} (h : ShD n c s) (ht : t < n) (hi : i < n) (htc : t < c) (hk : k < c) :
    ShD n c (swapD t i k s)
    ∧ (∀ x y, eM (swapD t i k s).a x y = eM s.a (sx t i x) (sx t k y))
    ∧ (∀ x y, eM (swapD t i k s).l x y = eM s.l (sx t i x) y)
    ∧ (∀ x y, eM (swapD t i k s).r x y = eM s.r x (sx t k y)) := by
  obtain ⟨la, ra, ll, rl, lr, rr⟩ := h
  refine ⟨⟨?_, ?_, ?_, ?_, ?_, ?_⟩, ?_, ?_, ?_⟩
  · show (colSwap t k (rowSwap t i s.a)).length = n; rw [colSwap_length, rowSwap_length]; exact la
  · exact rect_colSwap (rect_rowSwap ra (by omega) (by omega))
  · show (rowSwap t i s.l).length = n; rw [rowSwap_length]; exact ll
  · exact rect_rowSwap rl (by omega) (by omega)
  · show (colSwap t k s.r).length = c; rw [colSwap_length]; exact lr
  · exact rect_colSwap rr
  · intro x y
    show eM (colSwap t k (rowSwap t i s.a)) x y = _
    rw [colSwap_el (rect_rowSwap ra (by omega) (by omega)) htc hk, rowSwap_el (by omega) (by omega)]
  · intro x y
    show eM (rowSwap t i s.l) x y = _
    rw [rowSwap_el (by omega) (by omega)]
  · intro x y
    show eM (colSwap t k s.r) x y = _
    rw [colSwap_el rr htc hk]
theorem rowSub_el {A : Mx} {c i t : Nat} {q : Int} (hA : Rect c A) (hi : i < A.length) (ht : t < A.length) (x y : Nat) : eM (rowSub i t q A) x y = if x = i then eM A i y - q * eM A t y else eM A x y := by
  unfold rowSub eM
  rw [getD_setM _ _ _ _ hi]
  split
  · rw [subK_getD _ _ _ _ (by rw [rlen hA hi, rlen hA ht]; exact Nat.le_refl _)]
  · rfl
theorem rect_rowSub {A : Mx} {c i t : Nat} {q : Int} (hA : Rect c A) (hi : i < A.length) : Rect c (rowSub i t q A) :=
  rect_set hA (by rw [subK_length]; exact rlen hA hi)
theorem rowSub_length (A : Mx) (i t : Nat) (q : Int) : (rowSub i t q A).length = A.length := by simp [rowSub]
theorem add_parts {n c t i : Nat} {s : Dg} (h : ShD n c s) (ht : t < n) (hi : i < n) :
    ShD n c (addD t i s)
    ∧ (∀ x y, eM (addD t i s).a x y = if x = t then eM s.a t y + eM s.a i y else eM s.a x y)
    ∧ (∀ x y, eM (addD t i s).l x y = if x = t then eM s.l t y + eM s.l i y else eM s.l x y)
    ∧ (addD t i s).r = s.r := by
  obtain ⟨la, ra, ll, rl, lr, rr⟩ := h
  refine ⟨⟨?_, ?_, ?_, ?_, lr, rr⟩, ?_, ?_, rfl⟩
  · show (rowSub t i (-1) s.a).length = n; rw [rowSub_length]; exact la
  · exact rect_rowSub ra (by omega)
  · show (rowSub t i (-1) s.l).length = n; rw [rowSub_length]; exact ll
  · exact rect_rowSub rl (by omega)
  · intro x y
    show eM (rowSub t i (-1) s.a) x y = _
    rw [rowSub_el ra (by omega) (by omega)]
    split
    · omega
    · rfl
  · intro x y
    show eM (rowSub t i (-1) s.l) x y = _
    rw [rowSub_el rl (by omega) (by omega)]
    split
    · omega
    · rfl
theorem rowNeg_el {A : Mx} {i : Nat} (hi : i < A.length) (x y : Nat) : eM (rowNeg i A) x y = if x = i then -eM A i y else eM A x y := by
  unfold rowNeg eM
  rw [getD_setM _ _ _ _ hi]
  split
  · generalize A.getD i [] = l
    rw [List.getD_eq_getElem?_getD, List.getD_eq_getElem?_getD, List.getElem?_map]
    cases l[y]? <;> simp
  · rfl
theorem pos_parts {n c t : Nat} {s : Dg} (h : ShD n c s) (ht : t < n) :
    ShD n c (posD t s)
    ∧ (∀ x y, eM (posD t s).a x y = if x = t ∧ eM s.a t t < 0 then -eM s.a t y else eM s.a x y)
    ∧ (∀ x y, eM (posD t s).l x y = if x = t ∧ eM s.a t t < 0 then -eM s.l t y else eM s.l x y)
    ∧ (posD t s).r = s.r := by
  unfold posD
  by_cases hn : eM s.a t t < 0
  · obtain ⟨la, ra, ll, rl, lr, rr⟩ := h
    rw [if_pos hn]
    refine ⟨⟨?_, ?_, ?_, ?_, lr, rr⟩, ?_, ?_, rfl⟩
    · show (rowNeg t s.a).length = n; unfold rowNeg; rw [List.length_set]; exact la
    · exact rect_set ra (by rw [List.length_map]; exact rlen ra (by omega))
    · show (rowNeg t s.l).length = n; unfold rowNeg; rw [List.length_set]; exact ll
    · exact rect_set rl (by rw [List.length_map]; exact rlen rl (by omega))
    · intro x y
      show eM (rowNeg t s.a) x y = _
      rw [rowNeg_el (by omega)]
      by_cases hx : x = t
      · rw [if_pos hx, if_pos ⟨hx, hn⟩]
      · rw [if_neg hx, if_neg (fun h => hx h.1)]
    · intro x y
      show eM (rowNeg t s.l) x y = _
      rw [rowNeg_el (by omega)]
      by_cases hx : x = t
      · rw [if_pos hx, if_pos ⟨hx, hn⟩]
      · rw [if_neg hx, if_neg (fun h => hx h.1)]
  · rw [if_neg hn]
    refine ⟨h, ?_, ?_, rfl⟩
    · intro x y; rw [if_neg (fun h => hn h.2)]
    · intro x y; rw [if_neg (fun h => hn h.2)]
def Bst (A : Mx) (D : Nat → Nat → Prop) : Option (Nat × Nat) → Prop
  | none => ∀ i k, D i k → eM A i k = 0
  | some (i, k) => D i k ∧ eM A i k ≠ 0 ∧ ∀ i' k', D i' k' → eM A i' k' = 0 ∨ ((eM A i k).natAbs ≤ (eM A i' k').natAbs ∧ ((i' < i ∨ (i' = i ∧ k' < k)) → (eM A i k).natAbs < (eM A i' k').natAbs))
theorem betB_best {A : Mx} {D : Nat → Nat → Prop} {b : Option (Nat × Nat)} {i k : Nat} (h : Bst A D b) (hn : ∀ i' k', D i' k' → i' < i ∨ (i' = i ∧ k' < k)) : Bst A (fun i' k' => D i' k' ∨ (i' = i ∧ k' = k)) (betB A b i k) := by
  unfold betB
  by_cases hz : eM A i k = 0
  · rw [if_pos hz]
    cases b with
    | none =>
      intro i' k' hd
      rcases hd with hd | ⟨rfl, rfl⟩
      · exact h i' k' hd
      · exact hz
    | some p =>
      obtain ⟨x, y⟩ := p
      obtain ⟨h1, h2, h3⟩ := h
      refine ⟨.inl h1, h2, fun i' k' hd => ?_⟩
      rcases hd with hd | ⟨rfl, rfl⟩
      · exact h3 i' k' hd
      · exact .inl hz
  · rw [if_neg hz]
    cases b with
    | none =>
      refine ⟨.inr ⟨rfl, rfl⟩, hz, fun i' k' hd => ?_⟩
      rcases hd with hd | ⟨rfl, rfl⟩
      · exact .inl (h i' k' hd)
      · exact .inr ⟨Nat.le_refl _, fun h => by omega⟩
    | some p =>
      obtain ⟨x, y⟩ := p
      obtain ⟨h1, h2, h3⟩ := h
      simp only
      by_cases hlt : (eM A i k).natAbs < (eM A x y).natAbs
      · rw [if_pos hlt]
        refine ⟨.inr ⟨rfl, rfl⟩, hz, fun i' k' hd => ?_⟩
        rcases hd with hd | ⟨rfl, rfl⟩
        · rcases h3 i' k' hd with h4 | ⟨h4, _⟩
          · exact .inl h4
          · exact .inr ⟨by omega, fun _ => by omega⟩
        · exact .inr ⟨Nat.le_refl _, fun h => by omega⟩
      · rw [if_neg hlt]
        refine ⟨.inl h1, h2, fun i' k' hd => ?_⟩
        rcases hd with hd | ⟨rfl, rfl⟩
        · exact h3 i' k' hd
        · refine .inr ⟨by omega, fun h => ?_⟩
          have := hn x y h1
          omega
theorem Bst.congr {A : Mx} {D E : Nat → Nat → Prop} {b : Option (Nat × Nat)} (h : Bst A D b) (he : ∀ i k, D i k ↔ E i k) : Bst A E b := by
  have : D = E := funext fun i => funext fun k => propext (he i k)
  rwa [this] at h
theorem bestRow_best {A : Mx} {t i w : Nat} {b : Option (Nat × Nat)} (h : Bst A (fun i' k' => t ≤ i' ∧ i' < t + i ∧ t ≤ k' ∧ k' < t + w) b) : ∀ k, k ≤ w →
    Bst A (fun i' k' => t ≤ i' ∧ t ≤ k' ∧ ((i' < t + i ∧ k' < t + w) ∨ (i' = t + i ∧ k' < t + k))) (bestRow A (t + i) t b k)
  | 0, _ => h.congr fun i' k' => by omega
  | k + 1, hk => by
    rw [bestRow]
    refine (betB_best (bestRow_best h k (by omega)) fun i' k' hd => by omega).congr fun i' k' => ?_
    omega
theorem bestAll_best {A : Mx} {t w : Nat} : ∀ i, Bst A (fun i' k' => t ≤ i' ∧ i' < t + i ∧ t ≤ k' ∧ k' < t + w) (bestAll A t w i)
  | 0 => fun i k h => by omega
  | i + 1 => by
    rw [bestAll]
    exact (bestRow_best (bestAll_best i) w (Nat.le_refl _)).congr fun i' k' => by omega
theorem rowsOk_iff {t n c : Nat} {s : Dg} (h : ShD n c s) : ∀ j, t + j < n → (rowsOk t j s = true ↔ ∀ i, t < i → i ≤ t + j → (eM s.a i t).fmod (eM s.a t t) = 0)
  | 0, _ => ⟨fun _ i h1 h2 => by omega, fun _ => rfl⟩
  | j + 1, hj => by
    have ih := rowsOk_iff h (t := t) j (by omega)
    have hr := fun i => (rowsTo_row t s (by rw [h.ll, h.la]) j (by rw [h.la]; omega) i).1
    have e1 : eM (rowsTo t j s).a (t + 1 + j) t = eM s.a (t + 1 + j) t := by unfold eM; rw [hr, if_neg (by omega)]
    have e2 : eM (rowsTo t j s).a t t = eM s.a t t := by unfold eM; rw [hr, if_neg (by omega)]
    rw [rowsOk, Bool.and_eq_true, decide_eq_true_eq, e1, e2, ih]
    constructor
    · rintro ⟨h1, h2⟩ i h3 h4
      by_cases e : i = t + 1 + j
      · subst e; exact h2
      · exact h1 i h3 (by omega)
    · intro h1
      exact ⟨fun i h3 h4 => h1 i h3 (by omega), h1 _ (by omega) (by omega)⟩
theorem colsOk_iff {t c : Nat} {s : Dg} (hR : Rect c s.a) (ht : t < s.a.length) : ∀ j, t + j < c → (colsOk t j s = true ↔ ∀ k, t < k → k ≤ t + j → (eM s.a t k).fmod (eM s.a t t) = 0)
  | 0, _ => ⟨fun _ i h1 h2 => by omega, fun _ => rfl⟩
  | j + 1, hj => by
    have ih := colsOk_iff hR ht j (by omega)
    obtain ⟨e1, e2⟩ := colsTo_el t c s hR ht j (by omega)
    rw [colsOk, Bool.and_eq_true, decide_eq_true_eq, e1, e2, ih]
    constructor
    · rintro ⟨h1, h2⟩ i h3 h4
      by_cases e : i = t + 1 + j
      · subst e; exact h2
      · exact h1 i h3 (by omega)
    · intro h1
      exact ⟨fun i h3 h4 => h1 i h3 (by omega), h1 _ (by omega) (by omega)⟩
theorem clearOk_iff {n c t : Nat} {s : Dg} (h : ShD n c s) (ht : t < n) (htc : t < c) :
    clearOk n c t s = true ↔ (∀ i, t < i → i < n → (eM s.a i t).fmod (eM s.a t t) = 0) ∧ (∀ k, t < k → k < c → (eM s.a t k).fmod (eM s.a t t) = 0) := by
  have hr := fun i => (rowsTo_row t s (by rw [h.ll, h.la]) (n - (t + 1)) (by rw [h.la]; omega) i).1
  have hR1 : Rect c (rowsTo t (n - (t + 1)) s).a := fun r hr2 => by
    obtain ⟨i, hi, rfl⟩ := List.getElem_of_mem hr2
    have h4 := hr i
    rw [getD_get hi] at h4
    have hl2 : (s.a.getD i []).length = c := rlen h.ra (by have := (rowsTo_len t s (n - (t + 1))).1; omega)
    rw [h4]
    split
    · rw [subK_length]; exact hl2
    · exact hl2
  have et : ∀ k, eM (rowsTo t (n - (t + 1)) s).a t k = eM s.a t k := fun k => by unfold eM; rw [hr, if_neg (by omega)]
  unfold clearOk
  rw [Bool.and_eq_true, rowsOk_iff h _ (by omega), colsOk_iff hR1 (by rw [(rowsTo_len t s (n - (t + 1))).1, h.la]; exact ht) _ (by omega)]
  constructor
  · rintro ⟨h1, h2⟩
    refine ⟨fun i a b => h1 i a (by omega), fun k a b => ?_⟩
    have := h2 k a (by omega)
    rwa [et, et] at this
  · rintro ⟨h1, h2⟩
    refine ⟨fun i a b => h1 i a (by omega), fun k a b => ?_⟩
    rw [et, et]; exact h2 k a (by omega)
theorem badRow_iff {A : Mx} {t i : Nat} : ∀ w, (badRow A t i w = true ↔ ∃ k, t < k ∧ k ≤ t + w ∧ (eM A i k).fmod (eM A t t) ≠ 0)
  | 0 => ⟨fun h => (by cases h), fun ⟨k, h1, h2, _⟩ => by omega⟩
  | w + 1 => by
    rw [badRow, Bool.or_eq_true, badRow_iff w, decide_eq_true_eq]
    constructor
    · rintro (⟨k, h1, h2, h3⟩ | h)
      · exact ⟨k, h1, by omega, h3⟩
      · exact ⟨t + 1 + w, by omega, by omega, h⟩
    · rintro ⟨k, h1, h2, h3⟩
      by_cases e : k = t + 1 + w
      · subst e; exact .inr h3
      · exact .inl ⟨k, h1, by omega, h3⟩
theorem spoil_some {A : Mx} {t w x : Nat} : ∀ {j}, spoil A t w j = some x → t < x ∧ x ≤ t + j ∧ ∃ k, t < k ∧ k ≤ t + w ∧ (eM A x k).fmod (eM A t t) ≠ 0
  | 0, h => by cases h
  | j + 1, h => by
    rw [spoil] at h
    cases hs : spoil A t w j with
    | some y =>
      rw [hs] at h; injection h with h; subst h
      obtain ⟨h1, h2, h3⟩ := spoil_some hs
      exact ⟨h1, by omega, h3⟩
    | none =>
      rw [hs] at h
      simp only at h
      split at h
      · rename_i hb
        injection h with h; subst h
        exact ⟨by omega, by omega, (badRow_iff w).1 hb⟩
      · cases h
theorem spoil_none {A : Mx} {t w : Nat} : ∀ {j}, spoil A t w j = none → ∀ i k, t < i → i ≤ t + j → t < k → k ≤ t + w → (eM A i k).fmod (eM A t t) = 0
  | 0, _, i, k, h1, h2, _, _ => by omega
  | j + 1, h, i, k, h1, h2, h3, h4 => by
    rw [spoil] at h
    cases hs : spoil A t w j with
    | some y => rw [hs] at h; cases h
    | none =>
      rw [hs] at h
      simp only at h
      split at h
      · cases h
      · rename_i hb
        by_cases e : i = t + 1 + j
        · subst e
          refine Classical.byContradiction fun hc => hb ((badRow_iff w).2 ⟨k, h3, h4, hc⟩)
        · exact spoil_none hs i k h1 (by omega) h3 h4
structure Pick (n c t : Nat) (s : Dg) (i k : Nat) : Prop where
  i0 : t ≤ i
  i1 : i < n
  k0 : t ≤ k
  k1 : k < c
  ne : eM s.a i k ≠ 0
  le : ∀ i' k', t ≤ i' → i' < n → t ≤ k' → k' < c → eM s.a i' k' = 0 ∨ ((eM s.a i k).natAbs ≤ (eM s.a i' k').natAbs ∧ ((i' < i ∨ (i' = i ∧ k' < k)) → (eM s.a i k).natAbs < (eM s.a i' k').natAbs))
inductive Rnd (n c t : Nat) (s : Dg) : Option (Nat × Dg) → Prop
  | stop (h : ∀ i k, t ≤ i → i < n → t ≤ k → k < c → eM s.a i k = 0) : Rnd n c t s none
  | un (i k : Nat) (hp : Pick n c t s i k) (h : (∃ x, t < x ∧ x < n ∧ (eM (swapD t i k s).a x t).fmod (eM (swapD t i k s).a t t) ≠ 0) ∨ (∃ y, t < y ∧ y < c ∧ (eM (swapD t i k s).a t y).fmod (eM (swapD t i k s).a t t) ≠ 0)) :
      Rnd n c t s (some (t, clearD n c t (swapD t i k s)))
  | sp (i k j y : Nat) (hp : Pick n c t s i k) (h1 : ∀ x, t < x → x < n → (eM (swapD t i k s).a x t).fmod (eM (swapD t i k s).a t t) = 0) (h2 : ∀ y, t < y → y < c → (eM (swapD t i k s).a t y).fmod (eM (swapD t i k s).a t t) = 0)
      (hj : t < j) (hj1 : j < n) (hy : t < y) (hy1 : y < c) (hb : (eM (clearD n c t (swapD t i k s)).a j y).fmod (eM (clearD n c t (swapD t i k s)).a t t) ≠ 0) :
      Rnd n c t s (some (t, addD t j (clearD n c t (swapD t i k s))))
  | fin (i k : Nat) (hp : Pick n c t s i k) (h1 : ∀ x, t < x → x < n → (eM (swapD t i k s).a x t).fmod (eM (swapD t i k s).a t t) = 0) (h2 : ∀ y, t < y → y < c → (eM (swapD t i k s).a t y).fmod (eM (swapD t i k s).a t t) = 0)
      (h3 : ∀ j y, t < j → j < n → t < y → y < c → (eM (clearD n c t (swapD t i k s)).a j y).fmod (eM (clearD n c t (swapD t i k s)).a t t) = 0) :
      Rnd n c t s (some (t + 1, posD t (clearD n c t (swapD t i k s))))
theorem stepD_rnd {n c t : Nat} {s : Dg} (h : ShD n c s) : Rnd n c t s (stepD n c t s) := by
  have hb := bestAll_best (A := s.a) (t := t) (w := c - t) (n - t)
  unfold stepD
  cases hB : bestAll s.a t (c - t) (n - t) with
  | none =>
    rw [hB] at hb
    exact .stop fun i k h1 h2 h3 h4 => hb i k ⟨h1, by omega, h3, by omega⟩
  | some p =>
    obtain ⟨i, k⟩ := p
    rw [hB] at hb
    obtain ⟨⟨d1, d2, d3, d4⟩, hne, hle⟩ := hb
    have hp : Pick n c t s i k := ⟨d1, by omega, d3, by omega, hne, fun i' k' a1 a2 a3 a4 => hle i' k' ⟨a1, by omega, a3, by omega⟩⟩
    have hsw := (swap_parts h (show t < n by omega) hp.i1 (show t < c by omega) hp.k1).1
    have hck := clearOk_iff hsw (show t < n by omega) (show t < c by omega)
    simp only
    by_cases hok : clearOk n c t (swapD t i k s) = true
    · rw [if_pos hok]
      obtain ⟨h1, h2⟩ := hck.1 hok
      cases hs : spoil (clearD n c t (swapD t i k s)).a t (c - (t + 1)) (n - (t + 1)) with
      | some j =>
        obtain ⟨j1, j2, y, y1, y2, y3⟩ := spoil_some hs
        exact .sp i k j y hp h1 h2 j1 (by omega) y1 (by omega) y3
      | none =>
        exact .fin i k hp h1 h2 fun j y a1 a2 a3 a4 => spoil_none hs j y a1 (by omega) a3 (by omega)
    · rw [if_neg hok]
      refine .un i k hp (Classical.byContradiction fun hc => hok (hck.2 ⟨fun x a b => ?_, fun y a b => ?_⟩))
      · exact Classical.byContradiction fun h => hc (.inl ⟨x, a, b, h⟩)
      · exact Classical.byContradiction fun h => hc (.inr ⟨y, a, b, h⟩)
end Go.Proofs.YtokjolmpdfmnbaaGreatDoor
namespace Go.Proofs.YtokjolmpdfmnbaaGreatDoor
def OkD (E n c t : Nat) (s : Dg) : Prop := ∃ f R, runD E n c f t s = some R
theorem ok_stop {E n c t : Nat} {s : Dg} (hb : bddD E s = true) (h : stepD n c t s = none) : OkD E n c t s := ⟨1, (t, s), by rw [runD, if_pos hb, h]⟩
theorem ok_step {E n c t : Nat} {s : Dg} {p : Nat × Dg} (hb : bddD E s = true) (h : stepD n c t s = some p) (hk : OkD E n c p.1 p.2) : OkD E n c t s := by
  obtain ⟨f, R, hf⟩ := hk
  exact ⟨f + 1, R, by rw [runD, if_pos hb, h]; exact hf⟩
def Bme (E : Nat) (A : Mx) : Prop := ∀ i k, (eM A i k).natAbs < 2 ^ E
theorem Bme.mono {E F : Nat} {A : Mx} (h : Bme E A) (hf : E ≤ F) : Bme F A := fun i k => Nat.lt_of_lt_of_le (h i k) (Nat.pow_le_pow_right (by omega) hf)
theorem Bme.bdd {E : Nat} {A : Mx} (h : Bme E A) : bddM E A = true := by
  refine List.all_eq_true.2 fun r hr => List.all_eq_true.2 fun z hz => decide_eq_true ?_
  obtain ⟨i, hi, rfl⟩ := List.getElem_of_mem hr
  obtain ⟨k, hk, rfl⟩ := List.getElem_of_mem hz
  have := h i k
  unfold eM at this
  rwa [getD_get hi, getD_get hk] at this
theorem bdd_of {E Ea El : Nat} {s : Dg} (ha : Bme Ea s.a) (hl : Bme El s.l) (hr : Bme El s.r) (h1 : Ea ≤ E) (h2 : El ≤ E) : bddD E s = true := by
  unfold bddD; rw [(ha.mono h1).bdd, (hl.mono h2).bdd, (hr.mono h2).bdd]; rfl
structure InvD (n c t : Nat) (s : Dg) : Prop where
  sh : ShD n c s
  zo : ∀ i k, i ≠ k → (i < t ∨ k < t) → eM s.a i k = 0
theorem sx_lt {t i x : Nat} (hi : t ≤ i) (hx : x < t) : sx t i x = x := by unfold sx; rw [if_neg (by omega), if_neg (by omega)]
theorem sx_ge {t i x : Nat} (hi : t ≤ i) (hx : t ≤ x) : t ≤ sx t i x := by unfold sx; split <;> (try split) <;> omega
theorem sx_self (t x : Nat) : sx t t x = x := by unfold sx; split <;> (try split) <;> omega
theorem InvD.swap {n c t i k : Nat} {s : Dg} (h : InvD n c t s) (hi0 : t ≤ i) (hi : i < n) (hk0 : t ≤ k) (hk : k < c) : InvD n c t (swapD t i k s) ∧ ∀ x, x < t → eM (swapD t i k s).a x x = eM s.a x x := by
  obtain ⟨h1, h2, _, _⟩ := swap_parts h.sh (show t < n by omega) hi (show t < c by omega) hk
  refine ⟨⟨h1, fun x y hne ho => ?_⟩, fun x hx => by rw [h2, sx_lt hi0 hx, sx_lt hk0 hx]⟩
  rw [h2]
  by_cases hx : x < t
  · rw [sx_lt hi0 hx]
    by_cases hy : y < t
    · rw [sx_lt hk0 hy]; exact h.zo x y hne ho
    · have := sx_ge hk0 (show t ≤ y by omega)
      exact h.zo _ _ (by omega) (.inl hx)
  · have hy : y < t := by omega
    rw [sx_lt hk0 hy]
    have := sx_ge hi0 (show t ≤ x by omega)
    exact h.zo _ _ (by omega) (.inr hy)
theorem InvD.clear {n c t : Nat} {s : Dg} (h : InvD n c t s) (ht : t < n) (htc : t < c) : InvD n c t (clearD n c t s) ∧ ∀ x, x < t → eM (clearD n c t s).a x x = eM s.a x x := by
  obtain ⟨h1, h2, _, _⟩ := clear_parts h.sh ht htc
  refine ⟨⟨h1, fun x y hne ho => ?_⟩, fun x hx => by rw [h2, if_neg (by omega), if_neg (by omega), Int.sub_zero]⟩
  rw [h2]
  by_cases hx : t < x
  · have hy : y < t := by omega
    rw [if_pos hx, if_neg (by omega), h.zo x y hne ho, h.zo t y (by omega) (.inr hy)]; simp
  · rw [if_neg hx, h.zo x y hne ho]
    by_cases hy : t < y
    · rw [if_pos hy, if_neg hx, h.zo x t (by omega) (.inl (by omega))]; simp
    · rw [if_neg hy]; simp
theorem InvD.add {n c t i : Nat} {s : Dg} (h : InvD n c t s) (ht : t < n) (hi0 : t < i) (hi : i < n) : InvD n c t (addD t i s) ∧ ∀ x, x < t → eM (addD t i s).a x x = eM s.a x x := by
  obtain ⟨h1, h2, _, _⟩ := add_parts h.sh ht hi
  refine ⟨⟨h1, fun x y hne ho => ?_⟩, fun x hx => by rw [h2, if_neg (by omega)]⟩
  rw [h2]
  split
  · rename_i hx
    rw [h.zo t y (by omega) (by omega), h.zo i y (by omega) (by omega)]; rfl
  · exact h.zo x y hne ho
theorem InvD.posn {n c t : Nat} {s : Dg} (h : InvD n c t s) (ht : t < n) (h1 : ∀ x, t < x → eM s.a x t = 0) (h2 : ∀ y, t < y → eM s.a t y = 0) : InvD n c (t + 1) (posD t s) ∧ ∀ x, x < t → eM (posD t s).a x x = eM s.a x x := by
  obtain ⟨k1, k2, _, _⟩ := pos_parts h.sh ht
  have hz : ∀ x y, x ≠ y → (x < t + 1 ∨ y < t + 1) → eM s.a x y = 0 := by
    intro x y hne ho
    by_cases hx : x = t
    · subst hx
      by_cases hy : x < y
      · exact h2 y hy
      · exact h.zo _ _ hne (.inr (by omega))
    · by_cases hy : y = t
      · subst hy
        by_cases hx2 : y < x
        · exact h1 x hx2
        · exact h.zo _ _ hne (.inl (by omega))
      · exact h.zo _ _ hne (by omega)
  refine ⟨⟨k1, fun x y hne ho => ?_⟩, fun x hx => by rw [k2, if_neg (by omega)]⟩
  rw [k2]
  split
  · rename_i hx; rw [← hx.1, hz x y hne ho]; rfl
  · exact hz x y hne ho
theorem Pick.any {n c t i k : Nat} {s : Dg} (h : Pick n c t s i k) (hs : ShD n c s) {i' k' : Nat} (h1 : t ≤ i') (h2 : t ≤ k') : eM s.a i' k' = 0 ∨ ((eM s.a i k).natAbs ≤ (eM s.a i' k').natAbs ∧ ((i' < i ∨ (i' = i ∧ k' < k)) → (eM s.a i k).natAbs < (eM s.a i' k').natAbs)) := by
  by_cases hi : i' < n
  · by_cases hk : k' < c
    · exact h.le i' k' h1 hi h2 hk
    · exact .inl (el_col hs.ra (by omega) _)
  · exact .inl (el_row (by have := hs.la; omega) _)
theorem Pick.piv {n c t i k : Nat} {s : Dg} (h : Pick n c t s i k) (hs : ShD n c s) : eM (swapD t i k s).a t t = eM s.a i k := by
  obtain ⟨_, h2, _, _⟩ := swap_parts hs (show t < n by have := h.i0; have := h.i1; omega) h.i1 (show t < c by have := h.k0; have := h.k1; omega) h.k1
  have h0 := h.i0
  have h1 := h.k0
  rw [h2]
  have e1 : sx t i t = i := by unfold sx; split <;> (try split) <;> omega
  have e2 : sx t k t = k := by unfold sx; split <;> (try split) <;> omega
  rw [e1, e2]
theorem pw1 (a b : Nat) : 2 ^ a * 2 ^ b = 2 ^ (a + b) := (Nat.pow_add 2 a b).symm
theorem pwS (a : Nat) : 2 ^ (a + 1) = 2 * 2 ^ a := by rw [Nat.pow_succ]; omega
theorem pw0 (a : Nat) : 0 < 2 ^ a := Nat.pow_pos (by omega)
theorem lin_b {E G : Nat} {a q b : Int} (ha : a.natAbs < 2 ^ G) (hq : q.natAbs < 2 ^ E) (hb : b.natAbs < 2 ^ G) : (a - q * b).natAbs < 2 ^ (G + E + 1) := by
  have h1 : (q * b).natAbs ≤ 2 ^ E * 2 ^ G := by rw [Int.natAbs_mul]; exact Nat.mul_le_mul (Nat.le_of_lt hq) (Nat.le_of_lt hb)
  rw [pw1] at h1
  rw [pwS, show G + E = E + G by omega]
  have h2 : 2 ^ G ≤ 2 ^ (E + G) := Nat.pow_le_pow_right (by omega) (by omega)
  omega
theorem lr_swap {n c t i k G : Nat} {s : Dg} (h : ShD n c s) (ht : t < n) (hi : i < n) (htc : t < c) (hk : k < c) (hl : Bme G s.l) (hr : Bme G s.r) : Bme G (swapD t i k s).l ∧ Bme G (swapD t i k s).r := by
  obtain ⟨_, _, h3, h4⟩ := swap_parts h ht hi htc hk
  exact ⟨fun x y => by rw [h3]; exact hl _ _, fun x y => by rw [h4]; exact hr _ _⟩
theorem q_b {A : Mx} {E x y t : Nat} (h : Bme E A) (hp : eM A t t ≠ 0) : ((eM A x y).fdiv (eM A t t)).natAbs < 2 ^ E := Nat.lt_of_le_of_lt (fdiv_abs _ hp) (h _ _)
theorem lr_clear {n c t E G : Nat} {s : Dg} (h : ShD n c s) (ht : t < n) (htc : t < c) (hp : eM s.a t t ≠ 0) (ha : Bme E s.a) (hl : Bme G s.l) (hr : Bme G s.r) : Bme (G + E + 1) (clearD n c t s).l ∧ Bme (G + E + 1) (clearD n c t s).r := by
  obtain ⟨_, _, h3, h4⟩ := clear_parts h ht htc
  have hm : 2 ^ G ≤ 2 ^ (G + E + 1) := Nat.pow_le_pow_right (by omega) (by omega)
  constructor
  · intro x y
    rw [h3]
    split
    · exact lin_b (hl _ _) (q_b ha hp) (hl _ _)
    · have := hl x y; omega
  · intro x y
    rw [h4]
    split
    · exact lin_b (hr _ _) (q_b ha hp) (hr _ _)
    · have := hr x y; omega
theorem lr_add {n c t i G : Nat} {s : Dg} (h : ShD n c s) (ht : t < n) (hi : i < n) (hl : Bme G s.l) (hr : Bme G s.r) : Bme (G + 1) (addD t i s).l ∧ Bme (G + 1) (addD t i s).r := by
  obtain ⟨_, _, h3, h4⟩ := add_parts h ht hi
  refine ⟨fun x y => ?_, by rw [h4]; exact hr.mono (by omega)⟩
  rw [h3, pwS]
  have h1 := hl t y
  have h2 := hl i y
  have h5 := hl x y
  split <;> omega
theorem lr_pos {n c t G : Nat} {s : Dg} (h : ShD n c s) (ht : t < n) (hl : Bme G s.l) (hr : Bme G s.r) : Bme G (posD t s).l ∧ Bme G (posD t s).r := by
  obtain ⟨_, _, h3, h4⟩ := pos_parts h ht
  refine ⟨fun x y => ?_, by rw [h4]; exact hr⟩
  rw [h3]
  have h1 := hl t y
  have h5 := hl x y
  split <;> omega
theorem a_pos {n c t G : Nat} {s : Dg} (h : ShD n c s) (ht : t < n) (ha : Bme G s.a) : Bme G (posD t s).a := by
  obtain ⟨_, h3, _, _⟩ := pos_parts h ht
  intro x y
  rw [h3]
  have h1 := ha t y
  have h5 := ha x y
  split <;> omega
def qdB (t : Nat) (A : Mx) : Qd := ⟨eM A t t, eM A t (t + 1), eM A (t + 1) t, eM A (t + 1) (t + 1)⟩
theorem qdB_swap {n c t i k : Nat} {s : Dg} (h : ShD n c s) (hn : n ≤ t + 2) (hc : c ≤ t + 2) (hp : Pick n c t s i k) : PivQ (qdB t s.a) (qdB t (swapD t i k s).a) := by
  have i0 := hp.i0
  have i1 := hp.i1
  have k0 := hp.k0
  have k1 := hp.k1
  obtain ⟨_, h2, _, _⟩ := swap_parts h (show t < n by omega) i1 (show t < c by omega) k1
  have hpv := hp.piv h
  have a1 := hp.any h (Nat.le_refl t) (Nat.le_refl t)
  have a2 := hp.any h (Nat.le_refl t) (show t ≤ t + 1 by omega)
  have a3 := hp.any h (show t ≤ t + 1 by omega) (Nat.le_refl t)
  have a4 := hp.any h (show t ≤ t + 1 by omega) (show t ≤ t + 1 by omega)
  have hne := hp.ne
  rw [← hpv] at a1 a2 a3 a4 hne
  have e0 : (qdB t (swapD t i k s).a).x = eM (swapD t i k s).a t t := rfl
  refine ⟨hne, ?_, ?_, ?_, ?_, ?_⟩
  · rcases a1 with a | a
    · exact .inl a
    · exact .inr a.1
  · rcases a2 with a | a
    · exact .inl a
    · exact .inr a.1
  · rcases a3 with a | a
    · exact .inl a
    · exact .inr a.1
  · rcases a4 with a | a
    · exact .inl a
    · exact .inr a.1
  · have hi : i = t ∨ i = t + 1 := by omega
    have hk : k = t ∨ k = t + 1 := by omega
    have s0 : sx t t t = t := sx_self _ _
    have s1 : sx t t (t + 1) = t + 1 := sx_self _ _
    have s2 : sx t (t + 1) t = t + 1 := by unfold sx; split <;> (try split) <;> omega
    have s3 : sx t (t + 1) (t + 1) = t := by unfold sx; rw [if_pos rfl]
    rcases hi with rfl | rfl <;> rcases hk with rfl | rfl
    · left
      unfold qdB
      rw [h2, h2, h2, h2, s0, s1]
    · right; left
      refine ⟨?_, ?_⟩
      · unfold qdB
        rw [h2, h2, h2, h2, s0, s1, s2, s3]
      · rcases a1 with a | a
        · exact .inl a
        · exact .inr (a.2 (.inr ⟨rfl, by omega⟩))
    · right; right; left
      refine ⟨?_, ?_⟩
      · unfold qdB
        rw [h2, h2, h2, h2, s0, s1, s2, s3]
      · rcases a1 with a | a
        · exact .inl a
        · exact .inr (a.2 (.inl (by omega)))
    · right; right; right
      refine ⟨?_, ?_, ?_, ?_⟩
      · unfold qdB
        rw [h2, h2, h2, h2, s2, s3]
      · rcases a1 with a | a
        · exact .inl a
        · exact .inr (a.2 (.inl (by omega)))
      · rcases a2 with a | a
        · exact .inl a
        · exact .inr (a.2 (.inl (by omega)))
      · rcases a3 with a | a
        · exact .inl a
        · exact .inr (a.2 (.inr ⟨rfl, by omega⟩))
theorem clear_col {n c t : Nat} {s : Dg} (h : ShD n c s) (ht : t < n) (htc : t < c) {x : Nat} (hx : t < x) : eM (clearD n c t s).a x t = (eM s.a x t).fmod (eM s.a t t) := by
  rw [(clear_parts h ht htc).2.1, if_pos hx, if_neg (by omega), fmod_eq, Int.mul_comm]; unfold qR; omega
theorem clear_row {n c t : Nat} {s : Dg} (h : ShD n c s) (ht : t < n) (htc : t < c) {y : Nat} (hy : t < y) : eM (clearD n c t s).a t y = (eM s.a t y).fmod (eM s.a t t) := by
  rw [(clear_parts h ht htc).2.1, if_neg (by omega), if_pos hy, if_neg (by omega), fmod_eq, Int.mul_comm]; unfold qC; omega
theorem clear_piv {n c t : Nat} {s : Dg} (h : ShD n c s) (ht : t < n) (htc : t < c) : eM (clearD n c t s).a t t = eM s.a t t := by
  rw [(clear_parts h ht htc).2.1, if_neg (by omega), if_neg (by omega)]; omega
theorem qdB_clear {n c t : Nat} {s : Dg} (h : ShD n c s) (ht : t < n) (htc : t < c) : qdB t (clearD n c t s).a = clq (qdB t s.a) := by
  have h1 := clear_col h ht htc (show t < t + 1 by omega)
  have h2 := clear_row h ht htc (show t < t + 1 by omega)
  have h3 := clear_piv h ht htc
  have h4 := (clear_parts h ht htc).2.1 (t + 1) (t + 1)
  rw [if_pos (by omega), if_pos (by omega), if_pos (by omega)] at h4
  have h5 := (clear_parts h ht htc).2.1 (t + 1) t
  rw [if_pos (by omega), if_neg (by omega), Int.sub_zero] at h5
  rw [← h5, h1] at h4
  unfold qdB clq
  rw [h1, h2, h3, h4]
  rfl
theorem zcol {n c t : Nat} {s : Dg} (h : ShD n c s) (ht : t < n) (htc : t < c) (hne : eM s.a t t ≠ 0) (h1 : ∀ x, t < x → x < n → (eM s.a x t).fmod (eM s.a t t) = 0) : ∀ x, t < x → eM (clearD n c t s).a x t = 0 := fun x hx => by
  rw [clear_col h ht htc hx]
  by_cases h2 : x < n
  · exact h1 x hx h2
  · rw [el_row (by have := h.la; omega)]; exact (fmod_zero' hne).1
theorem zrow {n c t : Nat} {s : Dg} (h : ShD n c s) (ht : t < n) (htc : t < c) (hne : eM s.a t t ≠ 0) (h1 : ∀ y, t < y → y < c → (eM s.a t y).fmod (eM s.a t t) = 0) : ∀ y, t < y → eM (clearD n c t s).a t y = 0 := fun y hy => by
  rw [clear_row h ht htc hy]
  by_cases h2 : y < c
  · exact h1 y hy h2
  · rw [el_col h.ra (by omega)]; exact (fmod_zero' hne).1
theorem bme_block {n c t F : Nat} {s : Dg} (h : InvD n c t s) (hn : n ≤ t + 2) (hc : c ≤ t + 2) (hd : ∀ x, x < t → (eM s.a x x).natAbs < 2 ^ F) (h0 : (qdB t s.a).x.natAbs < 2 ^ F) (h1 : (qdB t s.a).y.natAbs < 2 ^ F) (h2 : (qdB t s.a).z.natAbs < 2 ^ F) (h3 : (qdB t s.a).u.natAbs < 2 ^ F) : Bme F s.a := by
  intro i k
  have hp := pw0 F
  have hz : eM s.a i k = 0 → (eM s.a i k).natAbs < 2 ^ F := fun h => by rw [h]; simpa using hp
  by_cases hi : i < n
  · by_cases hk : k < c
    · by_cases ho : i < t ∨ k < t
      · by_cases e : i = k
        · subst e; exact hd i (by omega)
        · exact hz (h.zo i k e ho)
      · rcases (show i = t ∨ i = t + 1 by omega) with e1 | e1 <;> rcases (show k = t ∨ k = t + 1 by omega) with e2 | e2 <;> rw [e1, e2]
        · exact h0
        · exact h1
        · exact h2
        · exact h3
    · exact hz (el_col h.sh.ra (by omega) _)
  · exact hz (el_row (by have := h.sh.la; omega) _)
theorem phase1 {n c t F G' Et X D : Nat} (hn : n ≤ t + 2) (hc : c ≤ t + 2) (hXD : D + X < 2 ^ F) (hE1 : F ≤ Et) (hE2 : G' ≤ Et)
    (K : ∀ s, InvD n c (t + 1) s → Bme F s.a → Bme G' s.l → Bme G' s.r → OkD Et n c (t + 1) s) :
    ∀ N G s, InvD n c t s → Bnd N (qdB t s.a) → IB X D (qdB t s.a) → Bme F s.a → Bme G s.l → Bme G s.r → G + N * (F + 2) ≤ G' → OkD Et n c t s
  | 0, _, _, _, hb, _, _, _, _, _ => hb.elim
  | N + 1, G, s, h, hb, hi, ha, hl, hr, hG => by
    have hG2 : G + (F + 2) + N * (F + 2) ≤ G' := by rw [Nat.add_mul] at hG; omega
    have hbd : bddD Et s = true := bdd_of ha hl hr hE1 (by omega)
    have hrn := stepD_rnd (t := t) h.sh
    generalize hst : stepD n c t s = st at hrn
    rcases hrn with h0 | ⟨i, k, hp, hu⟩ | ⟨i, k, j, y, hp, h1, h2, hj, hj1, hy, hy1, hbad⟩ | ⟨i, k, hp, h1, h2, h3⟩
    · exact ok_stop hbd hst
    all_goals
      have i0 := hp.i0
      have i1 := hp.i1
      have k0 := hp.k0
      have k1 := hp.k1
      have ht : t < n := by omega
      have htc : t < c := by omega
      obtain ⟨hv1, hd1⟩ := h.swap i0 i1 k0 k1
      obtain ⟨hl1, hr1⟩ := lr_swap h.sh ht i1 htc k1 hl hr
      have hpv := qdB_swap h.sh hn hc hp
      have hne : eM (swapD t i k s).a t t ≠ 0 := hpv.ne
      have ha1 : Bme F (swapD t i k s).a := fun x y => by rw [(swap_parts h.sh ht i1 htc k1).2.1]; exact ha _ _
      obtain ⟨hv2, hd2⟩ := hv1.clear ht htc
      obtain ⟨hl2, hr2⟩ := lr_clear hv1.sh ht htc hne ha1 hl1 hr1
      have hq2 := qdB_clear hv1.sh ht htc
      have hdd : ∀ x, x < t → (eM (clearD n c t (swapD t i k s)).a x x).natAbs < 2 ^ F := fun x hx => by rw [hd2 x hx, hd1 x hx]; exact ha _ _
    · have hs : Stp (qdB t s.a) (qdB t (clearD n c t (swapD t i k s)).a) := by
        refine .un _ hpv hq2 ?_
        rw [← hq2]
        rcases hu with ⟨x, x0, x1, x2⟩ | ⟨x, x0, x1, x2⟩
        · right
          obtain rfl : x = t + 1 := by omega
          show eM _ _ _ ≠ 0
          rw [clear_col hv1.sh ht htc x0]; exact x2
        · left
          obtain rfl : x = t + 1 := by omega
          show eM _ _ _ ≠ 0
          rw [clear_row hv1.sh ht htc x0]; exact x2
      have hi2 := hi.stp hs
      obtain ⟨b1, b2, b3, b4⟩ := hi2.2.1
      refine ok_step hbd hst (phase1 hn hc hXD hE1 hE2 K N _ _ hv2 (hb _ hs) hi2 (bme_block (F := F) hv2 hn hc hdd (Nat.lt_of_le_of_lt b1 hXD) (Nat.lt_of_le_of_lt b2 hXD) (Nat.lt_of_le_of_lt b3 hXD) (Nat.lt_of_le_of_lt b4 hXD)) (hl2.mono (by omega)) (hr2.mono (by omega)) hG2)
    · obtain ⟨hv3, hd3⟩ := hv2.add ht hj hj1
      obtain ⟨hl3, hr3⟩ := lr_add hv2.sh ht hj1 hl2 hr2
      obtain ⟨_, ea, _, _⟩ := add_parts hv2.sh ht hj1
      obtain rfl : j = t + 1 := by omega
      obtain rfl : y = t + 1 := by omega
      have z1 := zcol hv1.sh ht htc hne h1
      have z2 := zrow hv1.sh ht htc hne h2
      have hcp := clear_piv hv1.sh ht htc
      have hs : Stp (qdB t s.a) (qdB t (addD t (t + 1) (clearD n c t (swapD t i k s))).a) := by
        refine .sp _ hpv ?_ ?_ ?_ ?_
        · rw [← hq2]; exact z2 _ (by omega)
        · rw [← hq2]; exact z1 _ (by omega)
        · rw [← hq2]
          show (eM _ _ _).fmod (eM _ _ _) ≠ 0
          rw [hcp] at hbad
          exact hbad
        · rw [← hq2]
          unfold qdB
          rw [ea, ea, ea, ea, if_pos rfl, if_pos rfl, if_neg (by omega), if_neg (by omega), z1 (t + 1) (by omega), z2 (t + 1) (by omega), hcp]
          simp
      have hi2 := hi.stp hs
      obtain ⟨b1, b2, b3, b4⟩ := hi2.2.1
      refine ok_step hbd hst (phase1 hn hc hXD hE1 hE2 K N _ _ hv3 (hb _ hs) hi2 (bme_block (F := F) hv3 hn hc (fun x hx => by rw [hd3 x hx]; exact hdd x hx) (Nat.lt_of_le_of_lt b1 hXD) (Nat.lt_of_le_of_lt b2 hXD) (Nat.lt_of_le_of_lt b3 hXD) (Nat.lt_of_le_of_lt b4 hXD)) (hl3.mono (by omega)) (hr3.mono (by omega)) hG2)
    · have z1 := zcol hv1.sh ht htc hne h1
      have z2 := zrow hv1.sh ht htc hne h2
      have hpx : (qdB t (swapD t i k s).a).x.natAbs ≤ X := by
        rcases hi.2.2 with hl0 | hl0
        · exfalso
          have hn := hpv.ne
          rcases hpv.how with e | ⟨e, _⟩ | ⟨e, _⟩ | ⟨e, _⟩
          · rw [e] at hn; exact hn hl0.1
          · rw [e] at hn; exact hn hl0.2.1
          · rw [e] at hn; exact hn hl0.2.2.1
          · rw [e] at hn; exact hn hl0.2.2.2
        · have := hpv.low hl0; omega
      have hcu := clq_u hpv.ne (show _ ≤ D by rw [hpv.det]; exact hi.1)
      rw [← hq2] at hcu
      have hcx : (qdB t (clearD n c t (swapD t i k s)).a).x = (qdB t (swapD t i k s).a).x := clear_piv hv1.sh ht htc
      have hcy : (qdB t (clearD n c t (swapD t i k s)).a).y = 0 := z2 _ (by omega)
      have hcz : (qdB t (clearD n c t (swapD t i k s)).a).z = 0 := z1 _ (by omega)
      have ha2 : Bme F (clearD n c t (swapD t i k s)).a := bme_block hv2 hn hc hdd (by rw [hcx]; omega) (by rw [hcy]; exact pw0 F) (by rw [hcz]; exact pw0 F) (by omega)
      obtain ⟨hv3, _⟩ := hv2.posn ht z1 z2
      obtain ⟨hl3, hr3⟩ := lr_pos hv2.sh ht hl2 hr2
      exact ok_step hbd hst (K _ hv3 (a_pos hv2.sh ht ha2) (hl3.mono (by omega)) (hr3.mono (by omega)))
theorem phase1E {n c t E G G' Et : Nat} (hn : n ≤ t + 2) (hc : c ≤ t + 2) (hE1 : 2 * E + 2 ≤ Et) (hE2 : G' ≤ Et) (hG : G + (4 * E + 1) * (2 * E + 4) ≤ G')
    (K : ∀ s, InvD n c (t + 1) s → Bme (2 * E + 2) s.a → Bme G' s.l → Bme G' s.r → OkD Et n c (t + 1) s) {s : Dg} (h : InvD n c t s) (ha : Bme E s.a) (hl : Bme G s.l) (hr : Bme G s.r) : OkD Et n c t s := by
  have hq : ∀ i k, (eM s.a i k).natAbs < 2 ^ E := ha
  have hpr : ∀ i k i' k', (eM s.a i k * eM s.a i' k').natAbs ≤ 2 ^ (E + E) := fun i k i' k' => by
    rw [Int.natAbs_mul, ← pw1]; exact Nat.mul_le_mul (Nat.le_of_lt (hq _ _)) (Nat.le_of_lt (hq _ _))
  have e1 : 2 ^ (2 * E + 2) = 4 * 2 ^ (E + E) := by rw [show 2 * E + 2 = (E + E) + 1 + 1 by omega, pwS, pwS]; omega
  have e2 : 2 ^ E ≤ 2 ^ (E + E) := Nat.pow_le_pow_right (by omega) (by omega)
  have hp := pw0 (E + E)
  refine phase1 (F := 2 * E + 2) (X := 2 ^ E) (D := 2 * 2 ^ (E + E)) hn hc (by omega) hE1 hE2 K (4 * E + 1) G s h (bnd_all (hq _ _) (hq _ _) (hq _ _) (hq _ _)) ?_ (ha.mono (by omega)) hl hr (by rw [show 2 * E + 2 + 2 = 2 * E + 4 by omega]; exact hG)
  have a1 := hq t t
  have a2 := hq t (t + 1)
  have a3 := hq (t + 1) t
  have a4 := hq (t + 1) (t + 1)
  have m1 := hpr t t (t + 1) (t + 1)
  have m2 := hpr t (t + 1) (t + 1) t
  refine ⟨by unfold qdB; simp only; omega, ⟨by unfold qdB; simp only; omega, by unfold qdB; simp only; omega, by unfold qdB; simp only; omega, by unfold qdB; simp only; omega⟩, ?_⟩
  by_cases b1 : eM s.a t t = 0
  · by_cases b2 : eM s.a t (t + 1) = 0
    · by_cases b3 : eM s.a (t + 1) t = 0
      · by_cases b4 : eM s.a (t + 1) (t + 1) = 0
        · exact .inl ⟨b1, b2, b3, b4⟩
        · exact .inr ⟨_, .inr (.inr (.inr rfl)), b4, by unfold qdB; simp only; omega⟩
      · exact .inr ⟨_, .inr (.inr (.inl rfl)), b3, by unfold qdB; simp only; omega⟩
    · exact .inr ⟨_, .inr (.inl rfl), b2, by unfold qdB; simp only; omega⟩
  · exact .inr ⟨_, .inl rfl, b1, by unfold qdB; simp only; omega⟩
end Go.Proofs.YtokjolmpdfmnbaaGreatDoor
