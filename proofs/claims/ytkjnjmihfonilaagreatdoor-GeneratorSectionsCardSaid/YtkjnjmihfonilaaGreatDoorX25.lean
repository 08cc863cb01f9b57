/- Part 25 of the proof of the claim: contracts of the functions that it reaches, and plain laws; no condition. -/
import Derived.Test.YtkjnjmihfonilaaGreatDoorX24
namespace Go.Proofs.YtkjnjmihfonilaaGreatDoor
open Go.RowKit Go.Sort
open Hnf (V Span)
theorem rows_indep {n : Nat} {ps : List Nat} {F : Mx} (h : IsH n ps F) {y : V} (hz : ∀ j, cmb F y j = 0) : ∀ m i, i ≤ m → i < F.length → y i = 0 := by
  intro m
  induction m with
  | zero =>
    intro i hi hl
    obtain rfl : i = 0 := by omega
    have h1 := hz (ps.getD 0 0)
    unfold cmb at h1
    rw [sumZ_one (k := 0) hl (fun k hk h0 => by rw [h.left k hk _ (h.inc 0 k (by omega) hk)]; simp)] at h1
    have h2 := h.pos 0 hl
    rcases Int.mul_eq_zero.1 h1 with h3 | h3
    · exact h3
    · omega
  | succ m ih =>
    intro i hi hl
    rcases Nat.lt_or_ge i (m + 1) with h0 | h0
    · exact ih i (by omega) hl
    have h1 := hz (ps.getD i 0)
    unfold cmb at h1
    rw [sumZ_one (k := i) hl (fun k hk h0 => by
      rcases Nat.lt_or_ge k i with h4 | h4
      · rw [ih k (by omega) hk]; simp
      · rw [h.left k hk _ (h.inc i k (by omega) hk)]; simp)] at h1
    have h2 := h.pos i hl
    rcases Int.mul_eq_zero.1 h1 with h3 | h3
    · exact h3
    · omega
theorem sumZ_two {f : Nat → Int} {a b : Nat} {n : Nat} (ha : a < n) (hb : b < n) (hab : a ≠ b) (h : ∀ i, i < n → i ≠ a → i ≠ b → f i = 0) : sumZ f n = f a + f b := by
  have e : sumZ f n = sumZ (fun i => (if i = a then f a else 0) - (if i = b then - f b else 0)) n := sumZ_congr fun i hi => by
    by_cases h1 : i = a
    · subst h1; rw [if_pos rfl, if_neg hab]; simp
    · by_cases h2 : i = b
      · subst h2; rw [if_neg h1, if_pos rfl]; simp
      · rw [if_neg h1, if_neg h2, h i hi h1 h2]; simp
  rw [e, sumZ_sub, sumZ_one (k := a) ha (fun i _ hi => if_neg hi), sumZ_one (k := b) hb (fun i _ hi => if_neg hi)]
  simp
def upV (F : Mx) (c : Nat) : V := fun k => if k = c then 1 else if k < c then - eM F k c else 0
theorem up_dot {r : Nat} {qs : List Nat} {F : Mx} {c : Nat} (hF : IsH r qs F) (hc : c < r) (hl : c ≤ F.length) (h1 : ∀ i, i < c → qs.getD i 0 = i ∧ eM F i i = 1) :
    ∃ d : Int, 0 ≤ d ∧ (d ≠ 0 → c < F.length ∧ qs.getD c 0 = c ∧ eM F c c = d) ∧ ∀ i, i < F.length → ∃ t, dotV r (vr (F.getD i [])) (upV F c) = t * d := by
  have hlow : ∀ i, i < c → dotV r (vr (F.getD i [])) (upV F c) = 0 := fun i hi => by
    have hz : ∀ k, k < r → k ≠ i → k ≠ c → vr (F.getD i []) k * upV F c k = 0 := fun k hk h2 h3 => by
      by_cases h4 : k < c
      · have h5 : eM F i k = 0 := by
          rcases Nat.lt_or_ge k i with h6 | h6
          · exact hF.left i (by omega) k (by rw [(h1 i hi).1]; exact h6)
          · have h7 := hF.red i k (by omega) (by omega)
            rw [(h1 k h4).1, (h1 k h4).2] at h7
            omega
        have h5' : vr (F.getD i []) k = 0 := h5
        rw [h5']; simp
      · unfold upV; rw [if_neg h3, if_neg h4]; simp
    unfold dotV
    rw [sumZ_two (a := i) (b := c) (by omega) hc (by omega) hz]
    have e1 : vr (F.getD i []) i = 1 := (h1 i hi).2
    have e2 : vr (F.getD i []) c = eM F i c := rfl
    rw [e1, e2]
    unfold upV
    rw [if_pos rfl, if_neg (by omega), if_pos hi]
    omega
  have hhigh : ∀ i, i < F.length → (∀ k, k ≤ c → eM F i k = 0) → dotV r (vr (F.getD i [])) (upV F c) = 0 := fun i hi hz => sumZ_zero fun k hk => by
    by_cases h4 : k ≤ c
    · have h5 : vr (F.getD i []) k = 0 := hz k h4
      rw [h5]; simp
    · unfold upV; rw [if_neg (by omega), if_neg (by omega)]; simp
  have hpge : ∀ i, i < F.length → c ≤ i → c ≤ qs.getD i 0 := fun i hi hci => by
    rcases Nat.eq_zero_or_pos c with h | h
    · omega
    · have := hF.inc (c - 1) i (by omega) hi
      rw [(h1 (c - 1) (by omega)).1] at this
      omega
  by_cases hcp : c < F.length ∧ qs.getD c 0 = c
  · have hp := hF.pos c hcp.1
    rw [hcp.2] at hp
    refine ⟨eM F c c, by omega, fun _ => ⟨hcp.1, hcp.2, rfl⟩, fun i hi => ?_⟩
    rcases Nat.lt_trichotomy i c with h | rfl | h
    · exact ⟨0, by rw [hlow i h]; simp⟩
    · refine ⟨1, ?_⟩
      unfold dotV
      rw [sumZ_one (k := i) hc (fun k hk h2 => by
        rcases Nat.lt_or_ge k i with h4 | h4
        · have h5 : vr (F.getD i []) k = 0 := hF.left i hi k (by rw [hcp.2]; exact h4)
          rw [h5]; simp
        · unfold upV; rw [if_neg h2, if_neg (by omega)]; simp)]
      unfold upV
      rw [if_pos rfl]
      show eM F i i * 1 = 1 * eM F i i
      omega
    · exact ⟨0, by
        rw [hhigh i hi (fun k hk => hF.left i hi k (by have := hF.inc c i h hi; rw [hcp.2] at this; omega))]; simp⟩
  · refine ⟨0, Int.le_refl _, fun h => absurd rfl h, fun i hi => ⟨0, ?_⟩⟩
    rcases Nat.lt_or_ge i c with h | h
    · rw [hlow i h]; simp
    · rw [hhigh i hi (fun k hk => hF.left i hi k (by
        have h2 := hpge i hi h
        rcases Nat.lt_or_ge c i with h3 | h3
        · have h4 := hF.inc c i h3 hi
          have h5 := hpge c (by omega) (Nat.le_refl _)
          omega
        · have : i = c := by omega
          subst this
          have : qs.getD i 0 ≠ i := fun e => hcp ⟨hi, e⟩
          omega))]
      simp
theorem onto_col {n : Nat} {C M F : Mx} {ps qs : List Nat} (hM : KerL n (latM C) M) (hI : IsH n ps M) (hF : IsH M.length qs F) (h2 : ∀ v ∈ latM (trM n M), Span (latM F) v) :
    ∀ c, c ≤ M.length → c ≤ F.length ∧ ∀ i, i < c → qs.getD i 0 = i ∧ eM F i i = 1
  | 0, _ => ⟨Nat.zero_le _, fun i h => by omega⟩
  | c + 1, hc => by
    obtain ⟨hl, h1⟩ := onto_col hM hI hF h2 c (by omega)
    obtain ⟨d, hd0, hd, ht⟩ := up_dot hF (by omega) hl h1
    have hsp : ∀ v, Span (latM F) v → ∃ t, dotV M.length v (upV F c) = t * d := fun v hv => by
      induction hv with
      | zero => exact ⟨0, by rw [dot_zero]; simp⟩
      | @step v r q _ hr ih =>
        obtain ⟨t, e⟩ := ih
        obtain ⟨l, hlm, rfl⟩ := List.mem_map.1 hr
        obtain ⟨i, hi, rfl⟩ := List.getElem_of_mem hlm
        obtain ⟨t2, e2⟩ := ht i hi
        rw [getD_get hi] at e2
        exact ⟨t - q * t2, by rw [dot_sub, e, e2, Int.sub_mul, Int.mul_assoc]⟩
    have hcol : ∀ j, ∃ t, cmb M (upV F c) j = t * d ∧ (n ≤ j → t = 0) := fun j => by
      by_cases hj : j < n
      · obtain ⟨t, e⟩ := hsp _ (h2 (vr ((trM n M)[j]'(by simpa using hj))) (List.mem_map_of_mem (List.getElem_mem _)))
        refine ⟨t, ?_, fun h => by omega⟩
        rw [← e]
        refine sumZ_congr fun k hk => ?_
        have e3 := trM_en M hj hk
        have e4 : vr ((trM n M)[j]'(by simpa using hj)) k = eM (trM n M) j k := by
          unfold eM
          rw [getD_get (show j < (trM n M).length by simpa using hj) []]; rfl
        rw [e4, e3]
        have e5 : eM M k j = vr M[k] j := by unfold eM; rw [getD_get hk []]; rfl
        rw [e5]
        exact Int.mul_comm _ _
      · refine ⟨0, ?_, fun _ => rfl⟩
        rw [Int.zero_mul]
        refine sumZ_zero fun k hk => ?_
        have : eM M k j = 0 := by
          unfold eM; rw [getD_get hk]
          exact vr_far (by rw [hI.rect _ (List.getElem_mem hk)]; omega)
        rw [this]; simp
    obtain ⟨t, ht2⟩ := Classical.skolem.1 hcol
    have huc : upV F c c = 1 := by unfold upV; rw [if_pos rfl]
    have hdne : d ≠ 0 := fun h0 => by
      have := rows_indep hI (y := upV F c) (fun j => by rw [(ht2 j).1, h0]; simp) c c (Nat.le_refl _) (by omega)
      rw [huc] at this
      omega
    have htM : Span (latM M) t := by
      refine (hM.2 t).2 ⟨fun v hv => ?_, fun i hi => (ht2 i).2 hi⟩
      have h3 := ((hM.2 _).1 (span_cmb.2 ⟨upV F c, rfl⟩)).1 v hv
      have h4 : dotV n v (cmb M (upV F c)) = d * dotV n v t := by
        unfold dotV
        rw [← sumZ_mul]
        exact sumZ_congr fun i _ => by rw [(ht2 i).1]; grind
      rw [h4] at h3
      rcases Int.mul_eq_zero.1 h3 with h | h
      · exact absurd h hdne
      · exact h
    obtain ⟨y, hy⟩ := span_cmb.1 htM
    have h5 := rows_indep hI (y := Hnf.sub (upV F c) d y) (fun j => by
      rw [cmb_sub, (ht2 j).1, ← hy]
      grind) c c (Nat.le_refl _) (by omega)
    simp only [Hnf.sub, huc] at h5
    obtain ⟨k1, k2, k3⟩ := hd hdne
    have h6 : d * y c = 1 := by omega
    have h7 : d = 1 := by
      exact Int.eq_one_of_mul_eq_one_right hd0 h6
    exact ⟨by omega, fun i hi => by
      rcases Nat.lt_or_ge i c with h | h
      · exact h1 i h
      · obtain rfl : i = c := by omega
        exact ⟨k2, by rw [k3, h7]⟩⟩
theorem onto {n : Nat} {C M H : Mx} {b : List Int} (hM : KerL n (latM C) M) (hH : HnfOf (M.length + (trM n M).length) (wideM (trM n M)) H) (hb : b.length = M.length) : Span (latM (trM n M)) (vr b) := by
  obtain ⟨ps, hI⟩ := hM.1
  obtain ⟨qs, hF, a1, a2⟩ := left_form (trM_rect n M) hH
  generalize (upr M.length H).map (List.take M.length) = F at *
  obtain ⟨h1, h2⟩ := onto_col hM hI hF a2 M.length (Nat.le_refl _)
  have hlen : F.length ≤ M.length := isH_len hF
  refine Span.trans a1 (span_cmb.2 ⟨vr b, ?_⟩)
  funext j
  by_cases hj : j < M.length
  · unfold cmb
    rw [sumZ_one (k := j) (by omega) (fun k hk hkj => by
      have : eM F k j = 0 := by
        rcases Nat.lt_or_ge j k with h | h
        · exact hF.left k hk j (by rw [(h2 k (by omega)).1]; exact h)
        · have h3 := hF.red k j (by omega) (by omega)
          rw [(h2 j hj).1, (h2 j hj).2] at h3
          omega
      rw [this]; simp), (h2 j hj).2, Int.mul_one]
  · rw [vr_far (by omega)]
    symm
    refine sumZ_zero fun k hk => ?_
    have : eM F k j = 0 := by
      unfold eM; rw [getD_get hk]
      exact vr_far (by rw [hF.rect _ (List.getElem_mem hk)]; omega)
    rw [this]; simp
theorem redX_same {n : Nat} {ps : List Nat} {F : Mx} (h : IsH n ps F) {x y : List Int} (hx : x.length = n) (hy : y.length = n) (hs : Span (latM F) (Hnf.sub (vr x) 1 (vr y))) : redX F x = redX F y := by
  have h1 := redX_span F x h.rect hx
  have h2 := redX_span F y h.rect hy
  have hr : Span (latM F) (Hnf.sub (vr (redX F x)) 1 (vr (redX F y))) := by
    refine span_of_eq (((hs.sub 1 h1).sub (-1) h2)) fun j => ?_
    simp only [Hnf.sub]; omega
  have hz : ∀ j, Hnf.sub (vr (redX F x)) 1 (vr (redX F y)) j = 0 := by
    rcases Hnf.first (Hnf.sub (vr (redX F x)) 1 (vr (redX F y))) with h0 | ⟨j, hj, hz⟩
    · exact h0
    · exfalso
      rw [← wps_rows h.len] at hr
      obtain ⟨g, hg, e, hd⟩ := h.ech.lead hr hj hz
      obtain ⟨i, hi, rfl⟩ := wps_mem h.len hg
      simp only at e hd
      subst e
      have r1 := redX_range h hx i hi
      have r2 := redX_range h hy i hi
      obtain ⟨c, hc⟩ := hd
      have hc' : (redX F x).getD (ps.getD i 0) 0 - 1 * (redX F y).getD (ps.getD i 0) 0 = eM F i (ps.getD i 0) * c := hc
      have hj' : (redX F x).getD (ps.getD i 0) 0 - 1 * (redX F y).getD (ps.getD i 0) 0 ≠ 0 := hj
      have hlt : (eM F i (ps.getD i 0) * c).natAbs < (eM F i (ps.getD i 0)).natAbs := by rw [← hc']; omega
      rw [Int.natAbs_mul] at hlt
      have hc0 : c.natAbs = 0 := by
        rcases Nat.eq_zero_or_pos c.natAbs with h | h
        · exact h
        · have := Nat.mul_le_mul_left (eM F i (ps.getD i 0)).natAbs h; omega
      have hcz : c = 0 := by omega
      rw [hcz, Int.mul_zero] at hc'
      exact hj' hc'
  refine List.ext_getElem (by simp [hx, hy]) fun j j1 j2 => ?_
  have h3 := hz j
  simp only [Hnf.sub] at h3
  have e1 : vr (redX F x) j = (redX F x)[j] := getD_get j1 0
  have e2 : vr (redX F y) j = (redX F y)[j] := getD_get j2 0
  rw [e1, e2] at h3
  omega
def tmpE (x v : List Int) : Int := sumZ (fun i => x.getD i 0 * v.getD i 0) x.length
def tmpL (M : Mx) (x : List Int) : List Int := M.map (tmpE x)
@[simp] theorem tmpL_length (M : Mx) (x : List Int) : (tmpL M x).length = M.length := by simp [tmpL]
theorem tmpE_dot {n : Nat} {x v : List Int} (hx : x.length = n) : tmpE x v = dotV n (vr x) (vr v) := by unfold tmpE; rw [hx]; rfl
theorem tmpL_eq {n : Nat} {M : Mx} {x y : List Int} (hx : x.length = n) (hy : y.length = n) : tmpL M x = tmpL M y ↔ ∀ v ∈ latM M, dotV n v (Hnf.sub (vr x) 1 (vr y)) = 0 := by
  unfold tmpL latM
  rw [List.map_inj_left]
  constructor
  · intro h v hv
    obtain ⟨l, hl, rfl⟩ := List.mem_map.1 hv
    have := h l hl
    rw [tmpE_dot hx, tmpE_dot hy] at this
    rw [dot_subr, dot_comm n (vr l) (vr x), this, dot_comm n (vr l) (vr y)]; omega
  · intro h l hl
    have := h _ (List.mem_map_of_mem hl)
    rw [dot_subr] at this
    rw [tmpE_dot hx, tmpE_dot hy, dot_comm n (vr x), dot_comm n (vr y)]; omega
theorem TmOK.class_iff {P : List Int} {C M : Mx} (h : TmOK P C M) {x y : List Int} (hx : x.length = P.length) (hy : y.length = P.length) : tmpL M x = tmpL M y ↔ Span (latM C) (Hnf.sub (vr x) 1 (vr y)) := by
  rw [tmpL_eq hx hy, h.kC.2]
  refine ⟨fun h => ⟨h, fun i hi => ?_⟩, fun h => h.1⟩
  simp only [Hnf.sub]
  rw [vr_far (by omega), vr_far (by omega)]; simp
theorem TmOK.rep {P : List Int} {C M : Mx} (h : TmOK P C M) {x : List Int} (hx : x.length = P.length) : tmpL M (redX C x) = tmpL M x := by
  obtain ⟨qs, hI⟩ := h.kC.1
  have hs := redX_span C x hI.rect hx
  exact ((h.class_iff hx (by simp [hx])).2 hs).symm
theorem TmOK.same_rep {P : List Int} {C M : Mx} (h : TmOK P C M) {x y : List Int} (hx : x.length = P.length) (hy : y.length = P.length) (he : tmpL M x = tmpL M y) : redX C x = redX C y := by
  obtain ⟨qs, hI⟩ := h.kC.1
  exact redX_same hI hx hy ((h.class_iff hx hy).1 he)
theorem TmOK.rep_rep {P : List Int} {C M : Mx} (h : TmOK P C M) {x : List Int} (hx : x.length = P.length) : redX C (redX C x) = redX C x :=
  h.same_rep (by simp [hx]) hx (h.rep hx)
theorem tmp_of_cmb {n : Nat} {M : Mx} {x b : List Int} (hx : x.length = n) (hb : b.length = M.length) (h : ∀ j, j < M.length → cmb (trM n M) (vr x) j = vr b j) : tmpL M x = b := by
  refine List.ext_getElem (by simp [hb]) fun j j1 j2 => ?_
  have hj : j < M.length := by simpa using j1
  have h1 := h j hj
  rw [cmb_tr M _ hj, dot_comm] at h1
  show (List.map (tmpE x) M)[j]'(by simpa using hj) = b[j]
  rw [List.getElem_map, tmpE_dot hx, h1]
  exact getD_get j2 0
end Go.Proofs.YtkjnjmihfonilaaGreatDoor
namespace Go.Proofs.YtkjnjmihfonilaaGreatDoor
open Go.RowKit Go.Sort
def dgB (b : Nat) : Nat → Nat → List Nat
  | 0, _ => []
  | n + 1, k => dgB b n (k / b) ++ [k % b]
@[simp] theorem dgB_length (b : Nat) : ∀ n k, (dgB b n k).length = n
  | 0, _ => rfl
  | n + 1, k => by simp [dgB, dgB_length b n]
theorem dgB_lt {b : Nat} (hb : 0 < b) : ∀ n k, ∀ d ∈ dgB b n k, d < b
  | 0, _, d, h => by simp [dgB] at h
  | n + 1, k, d, h => by
    rw [dgB, List.mem_append] at h
    rcases h with h | h
    · exact dgB_lt hb n _ d h
    · simp at h; subst h; exact Nat.mod_lt _ hb
theorem dgB_carry {b : Nat} (hb : 1 < b) : ∀ n k j, j ≤ n → (∀ i, j ≤ i → i < n → (dgB b n k).getD i 0 = b - 1) →
    (j = 0 → k % b ^ n + 1 = b ^ n) ∧ (0 < j → (dgB b n k).getD (j - 1) 0 ≠ b - 1 → dgB b n (k + 1) = (dgB b n k).take (j - 1) ++ [(dgB b n k).getD (j - 1) 0 + 1] ++ List.replicate (n - j) 0)
  | 0, k, j, hj, _ => ⟨fun _ => by simp [Nat.mod_one], fun h => by omega⟩
  | n + 1, k, j, hj, h => by
    have hl := dgB_length b n (k / b)
    have hlast : (dgB b (n + 1) k).getD n 0 = k % b := by
      rw [dgB, List.getD_eq_getElem?_getD, List.getElem?_append_right (by omega), hl]; simp
    have hpre : ∀ i, i < n → (dgB b (n + 1) k).getD i 0 = (dgB b n (k / b)).getD i 0 := fun i hi => by
      rw [dgB, List.getD_eq_getElem?_getD, List.getElem?_append_left (by omega), List.getD_eq_getElem?_getD]
    rcases Nat.lt_or_ge n j with hjn | hjn
    · obtain rfl : j = n + 1 := by omega
      refine ⟨fun h => by omega, fun _ hd => ?_⟩
      rw [Nat.add_sub_cancel] at hd ⊢
      rw [hlast] at hd ⊢
      have hm := Nat.mod_lt k (show 0 < b by omega)
      have e1 : (k + 1) % b = k % b + 1 := by
        rw [Nat.add_mod, Nat.mod_eq_of_lt hb, Nat.mod_eq_of_lt (by omega)]
      have e2 : (k + 1) / b = k / b := by
        have h1 := Nat.div_add_mod k b
        have h2 := Nat.div_add_mod (k + 1) b
        rw [e1] at h2
        exact Nat.eq_of_mul_eq_mul_left (show 0 < b by omega) (by omega)
      rw [dgB, e1, e2, dgB, Nat.sub_self, List.take_left' hl]
      simp
    · have hk : k % b = b - 1 := by rw [← hlast]; exact h n hjn (by omega)
      have e1 : (k + 1) % b = 0 := by
        rw [Nat.add_mod, hk, Nat.mod_eq_of_lt hb, show b - 1 + 1 = b by omega, Nat.mod_self]
      have e2 : (k + 1) / b = k / b + 1 := by
        have h1 := Nat.div_add_mod k b
        have h2 := Nat.div_add_mod (k + 1) b
        rw [e1] at h2
        rw [hk] at h1
        refine Nat.eq_of_mul_eq_mul_left (show 0 < b by omega) ?_
        rw [Nat.mul_add]; omega
      obtain ⟨i1, i2⟩ := dgB_carry hb n (k / b) j hjn (fun i h1 h2 => by rw [← hpre i h2]; exact h i h1 (by omega))
      refine ⟨fun h0 => ?_, fun h0 hd => ?_⟩
      · have h3 := i1 h0
        have h4 : b * b ^ n = b * (k / b % b ^ n) + b := by rw [← Nat.mul_succ]; exact congrArg (b * ·) h3.symm
        rw [Nat.pow_succ, Nat.mul_comm (b ^ n) b, Nat.mod_mul, hk]
        omega
      · rw [hpre (j - 1) (by omega)] at hd ⊢
        rw [dgB, e2, e1, i2 h0 hd, dgB, List.take_append_of_le_length (by rw [hl]; omega), show n + 1 - j = (n - j) + 1 by omega, List.replicate_succ']
        simp
def bxR (n m k : Nat) : List Int := (dgB (2 * m + 1) n k).map fun (d : Nat) => (d : Int) - m
@[simp] theorem bxR_length (n m k : Nat) : (bxR n m k).length = n := by simp [bxR]
theorem bxR_b (n m k : Nat) : ∀ z ∈ bxR n m k, -(m : Int) ≤ z ∧ z ≤ m := fun z hz => by
  obtain ⟨d, hd, rfl⟩ := List.mem_map.1 hz
  have := dgB_lt (show 0 < 2 * m + 1 by omega) n k d hd
  omega
theorem dgB_zero (b : Nat) : ∀ n, dgB b n 0 = List.replicate n 0
  | 0 => rfl
  | n + 1 => by rw [dgB, Nat.zero_div, Nat.zero_mod, dgB_zero b n, List.replicate_succ']
theorem bxR_zero (n m : Nat) : bxR n m 0 = List.replicate n (-(m : Int)) := by
  rw [bxR, dgB_zero, List.map_replicate]
  simp
def bxL (M : Mx) (r : List Int) (n m k : Nat) : Mx := ((List.range k).map (bxR n m)).filter fun y => decide (tmpL M y = r)
theorem bxL_yes {M : Mx} {r : List Int} {n m k : Nat} (h : tmpL M (bxR n m k) = r) : bxL M r n m (k + 1) = bxL M r n m k ++ [bxR n m k] := by
  unfold bxL
  rw [List.range_succ, List.map_append, List.filter_append]
  simp [h]
theorem bxL_no {M : Mx} {r : List Int} {n m k : Nat} (h : tmpL M (bxR n m k) ≠ r) : bxL M r n m (k + 1) = bxL M r n m k := by
  unfold bxL
  rw [List.range_succ, List.map_append, List.filter_append]
  simp [h]
theorem bxL_len (M : Mx) (r : List Int) (n m k : Nat) : (bxL M r n m k).length ≤ k := by
  unfold bxL
  refine Nat.le_trans (List.length_filter_le _ _) ?_
  simp
theorem bxL_mem {M : Mx} {r : List Int} {n m k : Nat} {y : List Int} (h : y ∈ bxL M r n m k) : y.length = n ∧ (∀ z ∈ y, -(m : Int) ≤ z ∧ z ≤ m) ∧ tmpL M y = r := by
  unfold bxL at h
  rw [List.mem_filter, List.mem_map] at h
  obtain ⟨⟨i, _, rfl⟩, h2⟩ := h
  exact ⟨by simp, bxR_b n m i, by simpa using h2⟩
theorem bxR_carry {n m k j : Nat} (hm : 0 < m) (hj : j ≤ n) (h : ∀ i, j ≤ i → i < n → (bxR n m k).getD i 0 = m) :
    (j = 0 → k < (2 * m + 1) ^ n → k + 1 = (2 * m + 1) ^ n) ∧ (0 < j → (bxR n m k).getD (j - 1) 0 ≠ m → bxR n m (k + 1) = (bxR n m k).take (j - 1) ++ [(bxR n m k).getD (j - 1) 0 + 1] ++ List.replicate (n - j) (-(m : Int))) := by
  have hg : ∀ i, i < n → (bxR n m k).getD i 0 = ((dgB (2 * m + 1) n k).getD i 0 : Int) - m := fun i hi => by
    rw [getD_get (by simpa using hi), getD_get (by simpa using hi)]
    simp [bxR]
  obtain ⟨h1, h2⟩ := dgB_carry (b := 2 * m + 1) (by omega) n k j hj (fun i h3 h4 => by
    have := h i h3 h4
    rw [hg i h4] at this
    omega)
  refine ⟨fun h0 hk => ?_, fun h0 hd => ?_⟩
  · have := h1 h0
    rw [Nat.mod_eq_of_lt hk] at this
    exact this
  · rw [hg (j - 1) (by omega)] at hd ⊢
    have h3 := h2 h0 (by omega)
    unfold bxR
    rw [h3, List.map_append, List.map_append, List.map_replicate, List.map_take]
    simp only [List.map_cons, List.map_nil]
    congr 3
    · push_cast; omega
    · simp
def bstI (h : List Int → Nat) (L : Mx) : Nat → Nat
  | 0 => 0
  | k + 1 => if k = 0 ∨ h (L.getD k []) < h (L.getD (bstI h L k) []) then k else bstI h L k
theorem bstI_lt {h : List Int → Nat} {L : Mx} : ∀ {k}, 0 < k → bstI h L k < k
  | 0, h => by omega
  | k + 1, _ => by
    rw [bstI]
    split
    · omega
    · have : 0 < k := by omega
      have := bstI_lt (h := h) (L := L) this
      omega
def hgt (P : List Int) (y : List Int) : Nat → Nat
  | 0 => 1
  | k + 1 => hgt P y k * (P.getD k 0).toNat ^ (y.getD k 0).natAbs
def hgtA (P : List Int) (y : List Int) : Nat := hgt P y y.length
end Go.Proofs.YtkjnjmihfonilaaGreatDoor
namespace Go.Proofs.YtkjnjmihfonilaaGreatDoor
open Go.RowKit Go.Sort
open Hnf (V Span)
def mtC : Mx := [[4, -4, 1]]
def mtM : Mx := [[1, 0, -4], [0, 1, 4]]
def mtP : List Int := [2, 3, 5]
theorem mtM_isH : IsH 3 [0, 1] mtM where
  rect := by unfold Rect; decide
  len := rfl
  lt := by decide
  inc := fun i k h1 h2 => by
    have : k < 2 := h2
    obtain rfl : k = 1 := by omega
    obtain rfl : i = 0 := by omega
    decide
  left := fun i hi j hj => by
    have : i < 2 := hi
    rcases (show i = 0 ∨ i = 1 by omega) with rfl | rfl
    · have : j < 0 := hj
      omega
    · have : j < 1 := hj
      obtain rfl : j = 0 := by omega
      decide
  pos := by decide
  red := fun i k h1 h2 => by
    have : k < 2 := h2
    obtain rfl : k = 1 := by omega
    obtain rfl : i = 0 := by omega
    decide
theorem mtC_isH : IsH 3 [0] mtC where
  rect := by unfold Rect; decide
  len := rfl
  lt := by decide
  inc := fun i k h1 h2 => by
    have : k < 1 := h2
    omega
  left := fun i hi j hj => by
    have : i < 1 := hi
    obtain rfl : i = 0 := by omega
    have : j < 0 := hj
    omega
  pos := by decide
  red := fun i k h1 h2 => by
    have : k < 1 := h2
    omega
theorem vr3 (a b c : Int) (y : V) : dotV 3 (vr [a, b, c]) y = a * y 0 + b * y 1 + c * y 2 := by
  simp [dotV, sumZ, vr]
theorem vr3_at (a b c : Int) (j : Nat) (h : 3 ≤ j) : vr [a, b, c] j = 0 := by
  show [a, b, c].getD j 0 = 0
  rw [List.getD_eq_getElem?_getD, List.getElem?_eq_none (by simpa using h)]; rfl
theorem mt_kM : KerL 3 (latM mtC) mtM := by
  refine ⟨⟨_, mtM_isH⟩, fun y => ⟨fun h => ?_, fun ⟨h1, h2⟩ => ?_⟩⟩
  · obtain ⟨t, rfl⟩ := span_cmb.1 h
    refine ⟨fun v hv => ?_, fun i hi => ?_⟩
    · simp only [latM, mtC, List.map_cons, List.map_nil, List.mem_cons, List.not_mem_nil, or_false] at hv
      subst hv
      rw [vr3]
      simp [cmb, sumZ, eM, mtM]
      omega
    · simp only [cmb, sumZ, mtM, List.length_cons, List.length_nil]
      have e1 : eM [[1, 0, -4], [0, 1, 4]] 0 i = 0 := vr3_at 1 0 (-4) i hi
      have e2 : eM [[1, 0, -4], [0, 1, 4]] 1 i = 0 := vr3_at 0 1 4 i hi
      simp [e1, e2]
  · have h3 := h1 (vr [4, -4, 1]) (by simp [latM, mtC])
    rw [vr3] at h3
    refine span_cmb.2 ⟨y, ?_⟩
    funext j
    simp only [cmb, sumZ, mtM, List.length_cons, List.length_nil]
    rcases (show j = 0 ∨ j = 1 ∨ j = 2 ∨ 3 ≤ j by omega) with rfl | rfl | rfl | hj
    · simp [eM]
    · simp [eM]
    · simp [eM]; omega
    · have e1 : eM [[1, 0, -4], [0, 1, 4]] 0 j = 0 := vr3_at 1 0 (-4) j hj
      have e2 : eM [[1, 0, -4], [0, 1, 4]] 1 j = 0 := vr3_at 0 1 4 j hj
      simp [e1, e2, h2 j hj]
theorem mt_kC : KerL 3 (latM mtM) mtC := by
  refine ⟨⟨_, mtC_isH⟩, fun y => ⟨fun h => ?_, fun ⟨h1, h2⟩ => ?_⟩⟩
  · obtain ⟨t, rfl⟩ := span_cmb.1 h
    refine ⟨fun v hv => ?_, fun i hi => ?_⟩
    · simp only [latM, mtM, List.map_cons, List.map_nil, List.mem_cons, List.not_mem_nil, or_false] at hv
      rcases hv with rfl | rfl
      · rw [vr3]; simp [cmb, sumZ, eM, mtC]; omega
      · rw [vr3]; simp [cmb, sumZ, eM, mtC]; omega
    · simp only [cmb, sumZ, mtC, List.length_cons, List.length_nil]
      have e1 : eM [[4, -4, 1]] 0 i = 0 := vr3_at 4 (-4) 1 i hi
      simp [e1]
  · have h3 := h1 (vr [1, 0, -4]) (by simp [latM, mtM])
    have h4 := h1 (vr [0, 1, 4]) (by simp [latM, mtM])
    rw [vr3] at h3 h4
    refine span_cmb.2 ⟨fun _ => y 2, ?_⟩
    funext j
    simp only [cmb, sumZ, mtC, List.length_cons, List.length_nil]
    rcases (show j = 0 ∨ j = 1 ∨ j = 2 ∨ 3 ≤ j by omega) with rfl | rfl | rfl | hj
    · simp [eM]; omega
    · simp [eM]; omega
    · simp [eM]
    · have e1 : eM [[4, -4, 1]] 0 j = 0 := vr3_at 4 (-4) 1 j hj
      simp [e1, h2 j hj]
theorem mt_ok : TmOK mtP mtC mtM where
  pr := by intro x hx; simp [mtP] at hx; unfold SmP; omega
  inc := fun i h => by
    have : i + 1 < 3 := h
    rcases (show i = 0 ∨ i = 1 by omega) with rfl | rfl
    · show (2 : Int) < 3; decide
    · show (3 : Int) < 5; decide
  p0 := by decide
  p4 := by decide
  kM := mt_kM
  kC := mt_kC
  sC := by unfold SmK; decide
  sM := by unfold SmK; decide
theorem mt_box : bxL mtM [-6, 4] 3 4 729 = [[-2, 0, 1], [2, -4, 2]] := by decide +kernel
theorem mt_best : bstI (hgtA mtP) [[-2, 0, 1], [2, -4, 2]] 2 = 0 := by decide +kernel
theorem mt_cmb {x : List Int} (hx : x.length = 2) (h : ∀ j, j < 2 → cmb [[1, 0], [-1, 1]] (vr x) j = vr [-6, 4] j) : x = [-2, 4] := by
  match x, hx with
  | [a, b], _ =>
    have h0 := h 0 (by omega)
    have h1 := h 1 (by omega)
    simp [cmb, sumZ, eM, vr] at h0 h1
    subst h1
    rw [show a = -2 by omega]
theorem mt_span : Span (latM [[1, 0], [-1, 1]]) (vr [-6, 4]) := by
  refine span_cmb.2 ⟨vr [-2, 4], ?_⟩
  funext j
  rcases (show j = 0 ∨ j = 1 ∨ 2 ≤ j by omega) with rfl | rfl | hj
  · decide
  · decide
  · have e : ∀ a b : Int, vr [a, b] j = 0 := fun a b => by
      show [a, b].getD j 0 = 0
      rw [List.getD_eq_getElem?_getD, List.getElem?_eq_none (by simpa using hj)]; rfl
    have e1 : eM [[1, 0], [-1, 1]] 0 j = 0 := e 1 0
    have e2 : eM [[1, 0], [-1, 1]] 1 j = 0 := e (-1) 1
    rw [e]
    simp [cmb, sumZ, e1, e2]
end Go.Proofs.YtkjnjmihfonilaaGreatDoor
namespace Go.Proofs.YtkjnjmihfonilaaGreatDoor
open Go.RowKit Go.Sort
abbrev tmv (p c m : Value) : Value := .agg #[p, c, m]
structure TmR (w : World) (t : Value) (P : List Int) (C M : Mx) : Prop where
  ok : TmOK P C M
  v : ∃ sp cp sc lc cc sm lm cm, t = tmv (.slice sp P.length cp) (.slice sc lc cc) (.slice sm lm cm) ∧ RowR w (.slice sp P.length cp) P ∧ MatR w (.slice sc lc cc) C ∧ MatR w (.slice sm lm cm) M
theorem TmR.ext {w w' : World} {t : Value} {P : List Int} {C M : Mx} (h : TmR w t P C M) (he : Ext w w') : TmR w' t P C M := by
  obtain ⟨h1, sp, cp, sc, lc, cc, sm, lm, cm, rfl, h2, h3, h4⟩ := h
  exact ⟨h1, _, _, _, _, _, _, _, _, rfl, h2.ext he, h3.ext he, h4.ext he⟩
def BldPost (w : World) (P : List Int) (sp : Option Addr) (cp : Nat) (e : Ending) (w' : World) : Prop := ∃ C M sc lc cc sm lm cm, e = .returned (.tuple #[tmv (.slice sp P.length cp) (.slice sc lc cc) (.slice sm lm cm), .int .i64 0]) ∧ TmOK P C M ∧ MatO w.heap.size w' (.slice sc lc cc) C ∧ MatO w.heap.size w' (.slice sm lm cm) M ∧ Ext w w'
theorem smK9 {R : Mx} (hm : ∀ r ∈ R, ∀ z ∈ r, -9 ≤ z ∧ z ≤ 9) : SmK R := fun r hr z hz => by have := hm r hr z hz; omega
theorem chk9 {R : Mx} {n : Nat} (hR : Rect n R) (hn : n ≤ 4) (hm : ∀ r ∈ R, ∀ z ∈ r, -9 ≤ z ∧ z ≤ 9) : ∀ r ∈ R, chkRow r = 0 ∧ r.length = n := fun r hr => by
  have hg : r.any grt = false := by
    cases h : r.any grt
    · rfl
    · obtain ⟨z, hz, hg⟩ := List.any_eq_true.1 h
      have := hm r hr z hz
      unfold grt at hg
      have := of_decide_eq_true hg
      omega
  have h2 := hR r hr
  refine ⟨?_, h2⟩
  unfold chkRow
  rw [if_neg (by omega), hg]; rfl
theorem kerL_small {n : Nat} {R F K : Mx} (hn : n ≤ 4) (hR : Rect n R) (hm : ∀ r ∈ R, ∀ z ∈ r, -9 ≤ z ∧ z ≤ 9) (hF : HnfOf n R F) (hK : KerL n (latM F) K) : SmK K := by
  obtain ⟨ps, d, w, h⟩ := kset_of hn hR (fun r hr z hz => by have := hm r hr z hz; omega) hF
  exact .of_abs (ent_le (h.ker_b hn (hK.of_form hF)))
theorem set2o {T : TypeId} {g B : Nat} {W : World} {a b : Value} (h : OwnV T B W g 2 [a, b]) (x y : Value) :
    OwnV T B ((W.setCell ⟨g, 0, none⟩ x).setCell ⟨g, 1, none⟩ y) g 2 [x, y] ∧ W.grownBy ((W.setCell ⟨g, 0, none⟩ x).setCell ⟨g, 1, none⟩ y) (some g) := by
  obtain ⟨h1, g1⟩ := h.set 0 x
  obtain ⟨h2, g2⟩ := h1.set 1 y
  exact ⟨h2, grown_trans g1 g2⟩
set_option maxRecDepth 100000 in
set_option maxHeartbeats 8000000 in
theorem build_any {w : World} {mv : Value} {P : List Int} {sp : Option Addr} {cp : Nat} {R : Mx} {vals : Bool} (hP : RowR w (.slice sp P.length cp) P) (hM : MatR w mv R) (hp : (∀ x ∈ P, SmP x) ∧ 0 < P.length ∧ P.length ≤ 4 ∧ ∀ i (h : i + 1 < P.length), P[i]'(by omega) < P[i + 1]) (hR : Rect P.length R) (hl : R.length ≤ 4) (hm : ∀ r ∈ R, ∀ z ∈ r, -9 ≤ z ∧ z ≤ 9) (hL : Laid w) :
    Calls Tryz.prog 38 #[.slice sp P.length cp, mv, .bool vals] w (BldPost w P sp cp) := by
  have hck := Lib.hid (fun W (hW : Ext w W) => pCheck_ok (hP.ext hW) hp.2.1 (by omega) hp.1 hp.2.2.2)
  have hsm : ∀ F, HnfOf P.length R F → SmK F := fun K hK => by
    have := hnf_small hp.2.2.1 (fun r hr z hz => by have := hm r hr z hz; omega) hK
    exact fun r hr z hz => by
      have h2 := ent_le this r hr z hz
      omega
  have hof := Lib.hid (fun W (hW : Ext w W) => Of_ok (hM.ext hW) (chk9 hR hp.2.2.1 hm) hp.2.1 hp.2.2.1 hl (smK9 hm) hsm (hL.ext hW))
  have hkS := Lib.hid (fun F K S (h1 : HnfOf P.length R F) (h2 : KerL P.length (latM F) K) (h3 : KerL P.length (latM K) S) => tm_of hp hR hm h1 h2 h3)
  have hk1 : ∀ F, HnfOf P.length R F → ∀ K, KerL P.length (latM F) K → SmK K := fun F hF K hK => kerL_small hp.2.2.1 hR hm hF hK
  have hk2 : ∀ F, HnfOf P.length R F → ∀ K S, KerL P.length (latM F) K → KerL P.length (latM K) S → SmK S := fun F hF K S hK hS => (tm_of hp hR hm hF hK hS).1.sC
  have hsat := Lib.hid (fun W v F (hW : Ext w W) (hF : HnfOf P.length R F) (h : MatR W v F) => by
    obtain ⟨ps, hI⟩ := hF.1
    exact satur_ok (w := W) (v := v) (F := F) h hI hp.2.1 hp.2.2.1 (hsm F hF) (hk1 F hF) (hk2 F hF) (hL.ext hW))
  have hann := Lib.hid (fun W v F (hW : Ext w W) (hF : HnfOf P.length R F) (h : MatR W v F) => by
    obtain ⟨ps, hI⟩ := hF.1
    exact annih_ok (w := W) (v := v) (F := F) h hI hp.2.1 hp.2.2.1 (hsm F hF) (hk1 F hF) (hL.ext hW))
  have HO' := Lib.hid (own3 w 34 (.slice none 0 0) (.slice none 0 0) (.slice none 0 0))
  have hX := (Ext.refl w).alloc (.cells #[.slice none 0 0, .slice none 0 0, .slice none 0 0] 34)
  obtain ⟨b6, hb6⟩ : ∃ b, b = w.heap.size := ⟨_, rfl⟩
  have hb6s : w.heap.size ≤ b6 := by omega
  have HO := HO'
  clear hM hp hR hl hm hL hsm hk1 hk2 hP
  go_enter Tryz.func38, Tryz.ntmps38
  go_wp2_with fail
  refine (hck.out _ hX).mono ?_
  rintro e X ⟨rfl, hE1⟩
  go_wp2_with fail
  refine (hof.out _ (hX.trans hE1)).mono ?_
  rintro e X2 ⟨v1, F, rfl, hm1, hF, hE2⟩
  obtain ⟨a1, l1, k1, rfl⟩ := hm1.slice
  have e2 := (hX.trans hE1).trans hE2
  have Hm1 := Lib.hid hm1.mat
  have HF := Lib.hid hF
  have e2a := e2.alloc (.cells #[.int .i64 P.length, .slice a1 l1 k1] 94)
  have hE2' := hE2
  clear hm1 hF hE2 hof hck
  go_wp2_with fail
  refine (hsat.out _ _ _ e2a HF.out (Hm1.out.ext ((Ext.refl _).alloc _))).mono ?_
  rintro e X3 ⟨v2, S, rfl, hm2, ⟨K, hK, hS⟩, hE3⟩
  obtain ⟨a2, l2, k2, rfl⟩ := hm2.slice
  have e3 := e2a.trans hE3
  have hbm := e2a.size
  have Hm2 := Lib.hid hm2
  have x9 : X3.cell? ⟨X2.heap.size, 0, none⟩ = some (.int .i64 P.length) := hE3.cell (by go_simp)
  have x9' : X3.cell? ⟨X2.heap.size, 1, none⟩ = some (.slice a1 l1 k1) := hE3.cell (by go_simp)
  have H11 := Lib.hid (lat_alloc X3 94 (.int .i64 P.length) (.slice a2 l2 k2))
  have e3a := e3.alloc (.cells #[.int .i64 P.length, .slice a2 l2 k2] 94)
  have ea3 := (Ext.refl X3).alloc (.cells #[.int .i64 P.length, .slice a2 l2 k2] 94)
  have y9 := ea3.cell x9
  have y9' := ea3.cell x9'
  clear hm2 hsat x9 x9'
  go_wp2_with fail
  refine (hann.out _ _ _ e3a HF.out ((Hm1.out.ext ((Ext.refl _).alloc _)).ext (hE3.trans ea3))).mono ?_
  rintro e X4 ⟨v3, K', rfl, hm3, hK', hE4⟩
  obtain rfl := hK'.uniq hK
  obtain ⟨a3, l3, k3, rfl⟩ := hm3.slice
  have e4 := e3a.trans hE4
  have hbm2 := e3a.size
  have ea4 := (Ext.refl X4).alloc (.cells #[.int .i64 P.length, .slice a3 l3 k3] 94)
  have e4a := e4.trans ea4
  have Hm3 := Lib.hid (hm3.ext ea4)
  have Hm2a := Lib.hid (((Hm2.out.ext ea3).ext hE4).ext ea4)
  have H12 := Lib.hid (lat_alloc X4 94 (.int .i64 P.length) (.slice a3 l3 k3))
  have H11a := Lib.hid ((H11.out.ext hE4).ext ea4)
  have hne : X3.heap.size ≠ X4.heap.size := by
    have h1 := hE4.size
    have h2 : X3.heap.size < (X3.alloc (.cells #[.int .i64 P.length, .slice a2 l2 k2] 94)).heap.size := by simp
    omega
  have HO6 := Lib.hid (HO.out.ext (((((hE1.trans (hE2')).alloc _).trans hE3).trans ea3).trans hE4 |>.trans ea4))
  have Hok := Lib.hid (hkS.out F K' S HF.out hK hS)
  have h3s : w.heap.size < X3.heap.size := by
    have h1 := (((hE1.trans hE2').alloc _).trans hE3).size
    have h2 : w.heap.size < (w.alloc (.cells #[.slice none 0 0, .slice none 0 0, .slice none 0 0] 34)).heap.size := by simp
    omega
  have h4s : X3.heap.size ≤ X4.heap.size := by
    have h1 := (ea3.trans hE4).size
    exact h1
  clear H11 hK hS hm3 hK' hkS hann hE1 hE2' hE3 hE4
  go_upto_region 9 with fail
  generalize hY : X4.alloc (.cells #[.int .i64 P.length, .slice a3 l3 k3] 94) = Y at *
  generalize X3.heap.size = b11 at *
  generalize X4.heap.size = b12 at *
  clear hY y9 y9' ea3 ea4 e4 e3a e3 e2a e2
  have c0 : Y.cell? ⟨b11, 0, none⟩ = some (.int .i64 P.length) := H11a.out.cell (j := 0) (by simp)
  have c1 : Y.cell? ⟨b11, 1, none⟩ = some (.slice a2 l2 k2) := H11a.out.cell (j := 1) (by simp)
  have d0 : Y.cell? ⟨b12, 0, none⟩ = some (.int .i64 P.length) := H12.out.cell (j := 0) (by simp)
  have d1 : Y.cell? ⟨b12, 1, none⟩ = some (.slice a3 l3 k3) := H12.out.cell (j := 1) (by simp)
  have h6a : w.heap.size ≠ b11 := by omega
  have h6b : w.heap.size ≠ b12 := by omega
  cases vals
  · skip
    obtain ⟨Hr6, He6, Hg6⟩ := set3 e4a (Nat.le_refl _) HO6.out (.slice sp P.length cp) (.slice a2 l2 k2) (.slice a3 l3 k3)
    have HS6 := Lib.hid (mat_kept2 Hm2a.out HO6.out (by decide) (by decide) Hg6)
    have HK6 := Lib.hid (mat_kept2 Hm3.out HO6.out (by decide) (by decide) Hg6)
    have r0 := Hr6.cell (j := 0) (by simp)
    have r1 := Hr6.cell (j := 1) (by simp)
    have r2 := Hr6.cell (j := 2) (by simp)
    simp only [List.getElem_cons_zero, List.getElem_cons_succ] at r0 r1 r2
    have f0 := HO6.out.frozen 0
    have f1 := HO6.out.frozen 1
    have f2 := HO6.out.frozen 2
    have m0 := HO6.out.cell (j := 0) (by simp)
    have m1 := HO6.out.cell (j := 1) (by simp)
    have m2 := HO6.out.cell (j := 2) (by simp)
    simp only [List.getElem_cons_zero, List.getElem_cons_succ] at m0 m1 m2
    have Hres := Lib.hid (show BldPost w P sp cp (.returned (.tuple #[tmv (.slice sp P.length cp) (.slice a2 l2 k2) (.slice a3 l3 k3), .int .i64 0])) _ from ⟨_, _, _, _, _, _, _, _, rfl, Hok.out.1, HS6.out.mono hbm, HK6.out.mono hbm2, He6⟩)
    clear Hr6 He6 Hg6 HS6 HK6 e4a
    go_wp2_with fail
    refine bodyPost_ret (v := .tuple #[tmv (.slice sp P.length cp) (.slice a2 l2 k2) (.slice a3 l3 k3), .int .i64 0]) (by simp [results, Tryz.results38, go_sem, r0, r1, r2]) rfl Hres.out
  · obtain ⟨z1, g1⟩ := set2o H11a.out (.int .i64 P.length) (.slice a3 l3 k3)
    obtain ⟨z2, g2⟩ := set2o (H12.out.other g1 hne.symm) (.int .i64 P.length) (.slice a2 l2 k2)
    have z1' := z1.other g2 hne
    have f0 := H11a.out.frozen 0
    have f1 := H11a.out.frozen 1
    have f2 := H12.out.frozen 0
    have f3 := H12.out.frozen 1
    have eZ := ext_trans_grown (ext_trans_grown e4a g1 (by omega)) g2 (by omega)
    have HZ6 := Lib.hid ((HO6.out.other g1 h6a).other g2 h6b)
    have HZ2 := Lib.hid (mat_kept2 (mat_kept2 Hm2a.out H11a.out (by decide) (by decide) g1) (H12.out.other g1 hne.symm) (by decide) (by decide) g2)
    have HZ3 := Lib.hid (mat_kept2 (mat_kept2 Hm3.out H11a.out (by decide) (by decide) g1) (H12.out.other g1 hne.symm) (by decide) (by decide) g2)
    have t0 := z1'.cell (j := 0) (by simp)
    have t1 := z1'.cell (j := 1) (by simp)
    have t2 := z2.cell (j := 0) (by simp)
    have t3 := z2.cell (j := 1) (by simp)
    simp only [List.getElem_cons_zero, List.getElem_cons_succ] at t0 t1 t2 t3
    clear z1 z2 z1' g1 g2
    go_upto_region 13 with fail
    generalize hZ : World.setCell (World.setCell (World.setCell (World.setCell Y _ _) _ _) _ _) _ _ = Z at *
    clear hZ c0 c1 d0 d1 f0 f1 f2 f3
    obtain ⟨Hr6, He6, Hg6⟩ := set3 eZ (Nat.le_refl _) HZ6.out (.slice sp P.length cp) (.slice a3 l3 k3) (.slice a2 l2 k2)
    have HS6 := Lib.hid (mat_kept2 HZ3.out HZ6.out (by decide) (by decide) Hg6)
    have HK6 := Lib.hid (mat_kept2 HZ2.out HZ6.out (by decide) (by decide) Hg6)
    have r0 := Hr6.cell (j := 0) (by simp)
    have r1 := Hr6.cell (j := 1) (by simp)
    have r2 := Hr6.cell (j := 2) (by simp)
    simp only [List.getElem_cons_zero, List.getElem_cons_succ] at r0 r1 r2
    have f0 := HZ6.out.frozen 0
    have f1 := HZ6.out.frozen 1
    have f2 := HZ6.out.frozen 2
    have m0 := HZ6.out.cell (j := 0) (by simp)
    have m1 := HZ6.out.cell (j := 1) (by simp)
    have m2 := HZ6.out.cell (j := 2) (by simp)
    simp only [List.getElem_cons_zero, List.getElem_cons_succ] at m0 m1 m2
    have Hres := Lib.hid (show BldPost w P sp cp (.returned (.tuple #[tmv (.slice sp P.length cp) (.slice a3 l3 k3) (.slice a2 l2 k2), .int .i64 0])) _ from ⟨_, _, _, _, _, _, _, _, rfl, Hok.out.2, HS6.out.mono hbm2, HK6.out.mono hbm, He6⟩)
    clear Hr6 He6 Hg6 HS6 HK6 e4a
    go_wp2_with fail
    refine bodyPost_ret (v := .tuple #[tmv (.slice sp P.length cp) (.slice a3 l3 k3) (.slice a2 l2 k2), .int .i64 0]) (by simp [results, Tryz.results38, go_sem, r0, r1, r2]) rfl Hres.out
end Go.Proofs.YtkjnjmihfonilaaGreatDoor
