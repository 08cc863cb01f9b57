/- Part 1, beside the shared parts, of the proof of the claim: contracts and plain laws; no condition. -/
import Derived.Test.YtcklioolpicmcaaGreatDoorV01
import Derived.Test.YtcklioolpicmcaaGreatDoorV02
import Derived.Test.YtcklioolpicmcaaGreatDoorV03
import Derived.Test.YtcklioolpicmcaaGreatDoorV04
import Derived.Test.YtcklioolpicmcaaGreatDoorV05
import Derived.Test.YtcklioolpicmcaaGreatDoorV06
import Derived.Test.YtcklioolpicmcaaGreatDoorV07
import Derived.Test.YtcklioolpicmcaaGreatDoorV08
import Derived.Test.YtcklioolpicmcaaGreatDoorV09
import Derived.Test.YtcklioolpicmcaaGreatDoorV10
import Derived.Test.YtcklioolpicmcaaGreatDoorV11
import Derived.Test.YtcklioolpicmcaaGreatDoorV12
import Derived.Test.YtcklioolpicmcaaGreatDoorV13
import Derived.Test.YtcklioolpicmcaaGreatDoorV14
import Derived.Test.YtcklioolpicmcaaGreatDoorV15
import Derived.Test.YtcklioolpicmcaaGreatDoorV16
import Derived.Test.YtcklioolpicmcaaGreatDoorV17
import Derived.Test.YtcklioolpicmcaaGreatDoorV18
import Derived.Test.YtcklioolpicmcaaGreatDoorV19
import Derived.Test.YtcklioolpicmcaaGreatDoorV20
import Derived.Test.YtcklioolpicmcaaGreatDoorV21
import Derived.Test.YtcklioolpicmcaaGreatDoorV22
import Derived.Test.YtcklioolpicmcaaGreatDoorV23
import Derived.Test.YtcklioolpicmcaaGreatDoorV24
import Derived.Test.YtcklioolpicmcaaGreatDoorV25
import Derived.Test.YtcklioolpicmcaaGreatDoorV26
import Derived.Test.YtcklioolpicmcaaGreatDoorV27
import Derived.Test.YtcklioolpicmcaaGreatDoorV28
import Derived.Test.YtcklioolpicmcaaGreatDoorV29
import Derived.Test.YtcklioolpicmcaaGreatDoorV30
import Derived.BigQuiet
namespace Go.Proofs.YtcklioolpicmcaaGreatDoor
open Hnf (V Span Ech Red)
theorem wps_mem {ps : List Nat} {F : Mx} (hl : ps.length = F.length) {g : Nat × V} (hg : g ∈ wps ps F) : ∃ i, i < F.length ∧ g = (ps.getD i 0, vr (F.getD i [])) := by
  obtain ⟨x, hx, rfl⟩ := List.mem_map.1 hg
  obtain ⟨i, hi, hxe⟩ := List.getElem_of_mem hx
  have hi' : i < ps.length ∧ i < F.length := by simp at hi; omega
  obtain rfl : x = (ps[i]'hi'.1, F[i]'hi'.2) := by rw [← hxe]; exact List.getElem_zip
  exact ⟨i, hi'.2, by rw [getD_get hi'.1, getD_get hi'.2]⟩
end Go.Proofs.YtcklioolpicmcaaGreatDoor
namespace Go.Proofs.YtcklioolpicmcaaGreatDoor
open Hnf (V Span Ech Red)
theorem redX_span {n : Nat} : ∀ (F : Mx) (x : List Int), Rect n F → x.length = n → Span (latM F) (Hnf.sub (vr x) 1 (vr (redX F x)))
  | [], x, _, _ => by
    have e : Hnf.sub (vr x) 1 (vr (redX [] x)) = fun _ => 0 := by funext j; simp [Hnf.sub, redX]
    rw [e]; exact .zero
  | r :: F, x, hF, hx => by
    have hr : r.length = n := hF r (by simp)
    have ih := redX_span F (subK (stepQ r x) x r) (fun s hs => hF s (by simp [hs])) (by simp [hx])
    have h2 : Span (latM (r :: F)) (Hnf.sub (vr (subK (stepQ r x) x r)) 1 (vr (redX F (subK (stepQ r x) x r)))) := ih.mono fun v hv => by
      simp only [latM, List.map_cons]; exact List.mem_cons_of_mem _ hv
    have h3 := h2.step (-(stepQ r x)) (r := vr r) (by simp [latM])
    refine span_of_eq h3 fun j => ?_
    rw [redX, vr_sub _ (by omega)]
    simp only [Hnf.sub]; grind
theorem redX_keep {n : Nat} : ∀ (F : Mx) (x : List Int) (j : Nat), Rect n F → x.length = n → (∀ r ∈ F, r.getD j 0 = 0) → (redX F x).getD j 0 = x.getD j 0
  | [], x, j, _, _, _ => rfl
  | r :: F, x, j, hF, hx, hz => by
    have hr : r.length = n := hF r (by simp)
    rw [redX, redX_keep F _ j (fun s hs => hF s (by simp [hs])) (by simp [hx]) (fun s hs => hz s (by simp [hs])), subK_getD _ _ _ _ (by omega), hz r (by simp)]
    simp
theorem redX_range {n : Nat} {ps : List Nat} {F : Mx} (h : IsH n ps F) {x : List Int} (hx : x.length = n) (i : Nat) (hi : i < F.length) : 0 ≤ (redX F x).getD (ps.getD i 0) 0 ∧ (redX F x).getD (ps.getD i 0) 0 < eM F i (ps.getD i 0) := by
  have e : redX F x = redX (F.drop (i + 1)) (redX (F.take (i + 1)) x) := by
    have : ∀ (A B : Mx) (y : List Int), redX (A ++ B) y = redX B (redX A y) := by
      intro A
      induction A with
      | nil => intro B y; rfl
      | cons a A ih => intro B y; rw [List.cons_append, redX, redX, ih]
    rw [← this, List.take_append_drop]
  have hl1 : (redX (F.take (i + 1)) x).length = n := by simp [hx]
  have hFi : (F.getD i []).length = n := by rw [getD_get hi]; exact h.rect _ (List.getElem_mem hi)
  rw [e, redX_keep (n := n) _ _ _ (fun s hs => h.rect s (List.mem_of_mem_drop hs)) hl1 (fun r hr => ?_), redX_take hi, subK_getD _ _ _ _ (by rw [hFi, redX_length, hx]; exact Nat.le_refl _)]
  · have hpi : ps.getD i 0 = pv (F.getD i []) := by rw [isH_pv h, getD_map pv F i hi 0 []]
    rw [hpi]
    have hpos := h.pos i hi
    rw [hpi] at hpos
    exact fdr_pos hpos
  · obtain ⟨t, ht, rfl⟩ := List.getElem_of_mem hr
    rw [List.getElem_drop]
    have ht' : i + 1 + t < F.length := by simp at ht; omega
    have := h.left (i + 1 + t) ht' (ps.getD i 0) (h.inc i (i + 1 + t) (by omega) ht')
    unfold eM at this
    rw [getD_get ht'] at this
    exact this
theorem redX_zero {n : Nat} {ps : List Nat} {F : Mx} (h : IsH n ps F) {x : List Int} (hx : x.length = n) : zeroL (redX F x) ↔ Span (latM F) (vr x) := by
  have hs := redX_span F x h.rect hx
  rw [zero_vr]
  constructor
  · intro hz
    refine span_of_eq hs fun j => ?_
    simp [Hnf.sub, hz j]
  · intro hv
    have hr : Span (latM F) (vr (redX F x)) := by
      refine span_of_eq (hv.sub 1 hs) fun j => ?_
      simp only [Hnf.sub]; omega
    rcases Hnf.first (vr (redX F x)) with h0 | ⟨j, hj, hz⟩
    · exact h0
    · exfalso
      rw [← wps_rows h.len] at hr
      obtain ⟨g, hg, e, hd⟩ := h.ech.lead hr hj hz
      obtain ⟨i, hi, rfl⟩ := wps_mem h.len hg
      simp only at e hd
      subst e
      have hrg := redX_range h hx i hi
      obtain ⟨c, hc⟩ := hd
      have hpos := h.pos i hi
      have hc' : (redX F x).getD (ps.getD i 0) 0 = eM F i (ps.getD i 0) * c := hc
      have hj' : (redX F x).getD (ps.getD i 0) 0 ≠ 0 := hj
      have hlt : (eM F i (ps.getD i 0) * c).natAbs < (eM F i (ps.getD i 0)).natAbs := by rw [← hc']; omega
      rw [Int.natAbs_mul] at hlt
      have hc0 : c.natAbs = 0 := by
        rcases Nat.eq_zero_or_pos c.natAbs with h | h
        · exact h
        · have := Nat.mul_le_mul_left (eM F i (ps.getD i 0)).natAbs h; omega
      have hcz : c = 0 := by omega
      rw [hcz, Int.mul_zero] at hc'
      exact hj' hc'
end Go.Proofs.YtcklioolpicmcaaGreatDoor
namespace Go.Proofs.YtcklioolpicmcaaGreatDoor
open Hnf (V Span Ech Red)
theorem eM_far {c : Nat} {M : Mx} (hR : Rect c M) {i j : Nat} (hj : c ≤ j) : eM M i j = 0 := by
  unfold eM
  rcases Nat.lt_or_ge i M.length with hi | hi
  · rw [getD_get hi, List.getD_eq_getElem?_getD, List.getElem?_eq_none (by rw [hR _ (List.getElem_mem hi)]; exact hj)]; rfl
  · simp only [List.getD_eq_getElem?_getD]; rw [List.getElem?_eq_none hi]; rfl
theorem span_cmb {M : Mx} {v : V} : Span (latM M) v ↔ ∃ y, v = cmb M y := by
  constructor
  · intro h
    induction h with
    | zero => exact ⟨fun _ => 0, by funext j; exact (cmb_zero M j).symm⟩
    | @step v r q _ hr ih =>
      obtain ⟨y, rfl⟩ := ih
      obtain ⟨x, hx, rfl⟩ := List.mem_map.1 hr
      obtain ⟨i, hi, rfl⟩ := List.getElem_of_mem hx
      refine ⟨Hnf.sub y q (fun k => if k = i then 1 else 0), ?_⟩
      funext j
      rw [cmb_sub]
      have e2 : cmb M (fun k => if k = i then 1 else 0) j = eM M i j := by
        unfold cmb
        rw [sumZ_one (k := i) hi (fun t _ ht => by simp only [if_neg ht]; simp)]
        simp
      rw [e2, eM_vr hi]; rfl
  · rintro ⟨y, rfl⟩
    have hs := span_sum (M := latM M) (f := fun i => vr (M.getD i [])) y (n := M.length) (fun i hi => by
      rw [getD_get hi]; exact .mem (List.mem_map.2 ⟨_, List.getElem_mem _, rfl⟩))
    exact hs
theorem subK_take (k : Int) (c : Nat) : ∀ (a b : List Int), b.length ≤ a.length → (subK k a b).take c = subK k (a.take c) (b.take c) := by
  induction c with
  | zero => intro a b _; simp [subK]
  | succ c ih =>
    intro a b h
    cases b with
    | nil => simp [subK_nil]
    | cons y b =>
      cases a with
      | nil => simp at h
      | cons x a => simp only [subK, List.take_succ_cons]; rw [ih a b (by simpa using h)]
theorem pv_take {r : List Int} {c : Nat} (h : pv r < c) (hr : pv r < r.length) : pv (r.take c) = pv r := by
  refine (pv_of (p := pv r) ?_ fun j hj => ?_).1
  · rw [getD_take h]; exact pv_ne hr
  · rw [getD_take (by omega)]; exact pv_zero hj
theorem redX_left {m c : Nat} : ∀ (U : Mx) (l : List Int), Rect m U → l.length = m → (∀ r ∈ U, pv r < c ∧ pv r < m) → (redX U l).take c = redX (U.map (List.take c)) (l.take c)
  | [], l, _, _, _ => rfl
  | r :: U, l, hR, hl, hp => by
    have hr : r.length = m := hR r (by simp)
    obtain ⟨p1, p2⟩ := hp r (by simp)
    rw [redX, List.map_cons, redX, redX_left U _ (fun s hs => hR s (by simp [hs])) (by simp [hl]) (fun s hs => hp s (by simp [hs])), subK_take _ _ _ _ (by omega)]
    have e : stepQ (r.take c) (l.take c) = stepQ r l := by
      unfold stepQ
      rw [pv_take p1 (by omega), getD_take p1, getD_take p1]
    rw [e]
theorem eM_map_take {c : Nat} {H : Mx} {i j : Nat} (hj : j < c) : eM (H.map (List.take c)) i j = eM H i j := by
  unfold eM
  rcases Nat.lt_or_ge i H.length with hi | hi
  · rw [getD_map (List.take c) H i hi [] [], getD_take hj]
  · rw [show (H.map (List.take c)).getD i [] = [] by rw [List.getD_eq_getElem?_getD, List.getElem?_eq_none (by simpa using hi)]; rfl, show H.getD i [] = [] by rw [List.getD_eq_getElem?_getD, List.getElem?_eq_none hi]; rfl]
theorem eM_take {H : Mx} {u i j : Nat} (h : i < u) : eM (H.take u) i j = eM H i j := by
  unfold eM; simp only [List.getD_eq_getElem?_getD, List.getElem?_take, if_pos h]
theorem getD_takeN {l : List Nat} {u i : Nat} (h : i < u) : (l.take u).getD i 0 = l.getD i 0 := by
  simp only [List.getD_eq_getElem?_getD, List.getElem?_take, if_pos h]
theorem IsH.leftU {n c u : Nat} {ps : List Nat} {H : Mx} (h : IsH n ps H) (hc : c ≤ n) (hu : u ≤ H.length) (hp : ∀ i, i < u → ps.getD i 0 < c) : IsH c (ps.take u) ((H.take u).map (List.take c)) := by
  have hl : ((H.take u).map (List.take c)).length = u := by simp; omega
  have hpl := h.len
  refine ⟨fun r hr => ?_, by simp; omega, fun i hi => ?_, fun i k hik hk => ?_, fun i hi j hj => ?_, fun i hi => ?_, fun i k hik hk => ?_⟩
  · obtain ⟨s, hs, rfl⟩ := List.mem_map.1 hr
    rw [List.length_take, h.rect s (List.mem_of_mem_take hs)]; omega
  · rw [getD_takeN (by omega)]; exact hp i (by omega)
  · rw [getD_takeN (by omega), getD_takeN (by omega)]; exact h.inc i k hik (by omega)
  · rw [getD_takeN (by omega)] at hj
    have := hp i (by omega)
    rw [eM_map_take (by omega), eM_take (by omega)]; exact h.left i (by omega) j hj
  · rw [getD_takeN (by omega), eM_map_take (hp i (by omega)), eM_take (by omega)]; exact h.pos i (by omega)
  · rw [getD_takeN (by omega), eM_map_take (hp k (by omega)), eM_map_take (hp k (by omega)), eM_take (by omega), eM_take (by omega)]; exact h.red i k hik (by omega)
end Go.Proofs.YtcklioolpicmcaaGreatDoor
namespace Go.Proofs.YtcklioolpicmcaaGreatDoor
open Hnf (V Span Ech Red)
theorem span_cut {c : Nat} {A B : List V} (hAB : ∀ r ∈ A, Span B (fun j => if j < c then r j else 0)) {v : V} (h : Span A v) : Span B (fun j => if j < c then v j else 0) := by
  induction h with
  | zero => exact span_of_eq .zero fun j => by simp
  | @step v r q _ hr ih =>
    refine span_of_eq (ih.sub q (hAB r hr)) fun j => ?_
    simp only [Hnf.sub]; split <;> simp
theorem lat_at {H : Mx} {v : V} (h : v ∈ latM H) : ∃ i, i < H.length ∧ v = vr (H.getD i []) := by
  obtain ⟨r, hr, rfl⟩ := List.mem_map.1 h
  obtain ⟨i, hi, rfl⟩ := List.getElem_of_mem hr
  exact ⟨i, hi, by rw [getD_get hi]⟩
theorem eM_vrD (H : Mx) (i j : Nat) : vr (H.getD i []) j = eM H i j := rfl
theorem left_form {c : Nat} {M H : Mx} (hM : Rect c M) (hH : HnfOf (c + M.length) (wideM M) H) :
    ∃ qs, IsH c qs ((upr c H).map (List.take c)) ∧ (∀ v ∈ latM ((upr c H).map (List.take c)), Span (latM M) v) ∧ (∀ v ∈ latM M, Span (latM ((upr c H).map (List.take c))) v) := by
  obtain ⟨⟨ps, hI⟩, h1, h2⟩ := hH
  obtain ⟨u, hu, e1, e2, p1, p2⟩ := hI.split c
  rw [e1]
  refine ⟨ps.take u, hI.leftU (by omega) hu p1, fun v hv => ?_, fun v hv => ?_⟩
  · obtain ⟨r, hr, rfl⟩ := List.mem_map.1 hv
    obtain ⟨s, hs, rfl⟩ := List.mem_map.1 hr
    have hw := wide_span hM (h1 _ (List.mem_map.2 ⟨s, List.mem_of_mem_take hs, rfl⟩))
    refine span_cmb.2 ⟨fun i => vr s (c + i), ?_⟩
    funext j
    rw [vr_take]
    by_cases hj : j < c
    · rw [if_pos hj]; exact hw.1 j hj
    · rw [if_neg hj]; exact (sumZ_zero fun i _ => by rw [eM_far hM (by omega)]; simp).symm
  · obtain ⟨r, hr, rfl⟩ := List.mem_map.1 hv
    obtain ⟨i, hi, rfl⟩ := List.getElem_of_mem hr
    have hW : Span (latM H) (vr ((wideM M)[i]'(by simpa using hi))) := h2 _ (List.mem_map.2 ⟨_, List.getElem_mem _, rfl⟩)
    have hc := span_cut (c := c) (B := latM ((H.take u).map (List.take c))) (fun r hr => by
      obtain ⟨k, hk, rfl⟩ := lat_at hr
      by_cases hku : k < u
      · refine .mem (List.mem_map.2 ⟨(H.getD k []).take c, List.mem_map.2 ⟨H.getD k [], ?_, rfl⟩, ?_⟩)
        · rw [getD_get hk]
          have : k < (H.take u).length := by simp; omega
          have h3 := List.getElem_mem this
          rwa [List.getElem_take] at h3
        · funext j; exact vr_take j
      · refine span_of_eq .zero fun j => ?_
        by_cases hj : j < c
        · rw [if_pos hj, eM_vrD]; exact hI.left k hk j (by have := p2 k (by omega) hk; omega)
        · rw [if_neg hj]) hW
    refine span_of_eq hc fun j => ?_
    rw [wide_vr hM hi]
    by_cases hj : j < c
    · rw [if_pos hj, if_pos hj, eM_vr hi]
    · rw [if_neg hj, ← eM_vr hi, eM_far hM (by omega)]
theorem vr_zeros (b : List Int) (n j : Nat) : vr (b ++ List.replicate n 0) j = if j < b.length then vr b j else 0 := by
  unfold vr
  simp only [List.getD_eq_getElem?_getD]
  by_cases hj : j < b.length
  · rw [if_pos hj, List.getElem?_append_left hj]
  · rw [if_neg hj, List.getElem?_append_right (by omega), List.getElem?_replicate]; split <;> rfl
theorem sol_zero {c : Nat} {M H : Mx} {b : List Int} (hM : Rect c M) (hH : HnfOf (c + M.length) (wideM M) H) (hb : b.length = c) : zeroL ((solL c H M.length b).take c) ↔ Span (latM M) (vr b) := by
  obtain ⟨qs, hU, a1, a2⟩ := left_form hM hH
  obtain ⟨⟨ps, hI⟩, h1, h2⟩ := hH
  have hr := upr_rows (c := c) hI
  unfold solL
  rw [redX_left _ _ hr.1 (by simp [hb]) hr.2, List.take_left' hb, redX_zero hU hb]
  exact ⟨fun h => h.trans a1, fun h => h.trans a2⟩
theorem vr_negM (l : List Int) (j : Nat) : vr (negM l) j = -vr l j := by
  have := congrFun (vr_neg l) j
  simp only [Hnf.sub] at this
  show vr (l.map fun z => -z) j = _
  omega
theorem sol_cmb {c : Nat} {M H : Mx} {b : List Int} (hM : Rect c M) (hH : HnfOf (c + M.length) (wideM M) H) (hb : b.length = c) (hz : zeroL ((solL c H M.length b).take c)) : ∀ j, j < c → cmb M (vr (negM ((solL c H M.length b).drop c))) j = vr b j := by
  intro j hj
  obtain ⟨⟨ps, hI⟩, h1, h2⟩ := hH
  have hr := upr_rows (c := c) hI
  have hs := redX_span (n := c + M.length) (upr c H) (b ++ List.replicate M.length 0) hr.1 (by simp [hb])
  have hs2 := (hs.mono (N := latM H) fun v hv => by
    obtain ⟨r, hr, rfl⟩ := List.mem_map.1 hv
    exact List.mem_map.2 ⟨r, (List.mem_filter.1 hr).1, rfl⟩).trans h1
  have hw := (wide_span hM hs2).1 j hj
  have e : redX (upr c H) (b ++ List.replicate M.length 0) = solL c H M.length b := rfl
  rw [e] at hw
  have z0 := zero_vr.1 hz j
  rw [vr_take, if_pos hj] at z0
  simp only [Hnf.sub] at hw
  rw [z0, vr_zeros, hb, if_pos hj] at hw
  have e2 : (fun i => vr (b ++ List.replicate M.length 0) (c + i) - 1 * vr (solL c H M.length b) (c + i)) = vr (negM ((solL c H M.length b).drop c)) := by
    funext i
    rw [vr_negM, vr_drop, vr_zeros, hb, if_neg (by omega)]; omega
  rw [e2] at hw
  omega
theorem solX_cmb {c : Nat} {M H : Mx} {b : List Int} (hM : Rect c M) (hH : HnfOf (c + M.length) (wideM M) H) (hb : b.length = c) (hz : zeroL ((solL c H M.length b).take c)) : ∀ j, j < c → cmb M (vr (solX c H M.length b)) j = vr b j := by
  intro j hj
  obtain ⟨qs, hK, hS⟩ := krn_form hM hH
  have h0 : (negM ((solL c H M.length b).drop c)).length = M.length := by simp [hb]
  have hs := redX_span (krn c H) _ hK.rect h0
  have := ((hS _).1 hs).1 j hj
  rw [cmb_sub, sol_cmb hM hH hb hz j hj] at this
  unfold solX
  omega
end Go.Proofs.YtcklioolpicmcaaGreatDoor
namespace Go.Proofs.YtcklioolpicmcaaGreatDoor
open Hnf
theorem pb9 {a b : Int} {s t : Nat} (ha : a.natAbs ≤ s) (hb : b.natAbs ≤ t) : (a * b).natAbs ≤ s * t := by
  rw [Int.natAbs_mul]; exact Nat.mul_le_mul ha hb
theorem bd1 {x D y : Int} (h : x * D = y) (hD : D ≠ 0) : x.natAbs ≤ y.natAbs := by
  rw [← h, Int.natAbs_mul]
  exact Nat.le_mul_of_pos_right _ (by omega)
end Go.Proofs.YtcklioolpicmcaaGreatDoor
namespace Go.Proofs.YtcklioolpicmcaaGreatDoor
open Hnf
def T3 (m : Nat → Nat → Int) (y : Nat → Int) (j : Nat) : Int := y 0 * m 0 j + y 1 * m 1 j + y 2 * m 2 j
theorem v3_0 (a b c : Int) : v3 a b c 0 = a := rfl
theorem v3_1 (a b c : Int) : v3 a b c 1 = b := rfl
theorem v3_2 (a b c : Int) : v3 a b c 2 = c := rfl
theorem v3_ge (a b c : Int) {i : Nat} (h : 3 ≤ i) : v3 a b c i = 0 := by unfold v3; rw [if_neg (by omega), if_neg (by omega), if_neg (by omega)]
theorem pb3 {a b : Int} {s t : Int} (ha : -s ≤ a ∧ a ≤ s) (hb : -t ≤ b ∧ b ≤ t) : -(s * t) ≤ a * b ∧ a * b ≤ s * t := by
  have h1 : a.natAbs ≤ s.toNat := by omega
  have h2 : b.natAbs ≤ t.toNat := by omega
  have h3 := pb9 h1 h2
  have h4 : ((s.toNat * t.toNat : Nat) : Int) = s * t := by rw [Int.natCast_mul]; congr 1 <;> omega
  omega
theorem lin3 {z V p q r : Int} (h : z * V = p * q + r) (hV : V ≠ 0) (hp : -162 ≤ p ∧ p ≤ 162) (hq : -162 ≤ q ∧ q ≤ 162) (hr : -19440 ≤ r ∧ r ≤ 19440) : z.natAbs ≤ 1000000 := by
  have h1 := bd1 h hV
  have h2 := pb3 hp hq
  omega
end Go.Proofs.YtcklioolpicmcaaGreatDoor
namespace Go.Proofs.YtcklioolpicmcaaGreatDoor
open Go.RowKit Go.Sort
set_option maxRecDepth 100000 in
set_option maxHeartbeats 1000000 in
theorem index_isZero {w : World} {sa : Option Addr} {gb go cap : Nat} {vs : List Value} {p : Nat → Bool} {k : Int} (hS : Sl w sa gb go vs) (hl : vs.length ≤ 1000000)
    (hF : ∀ i (h : i < vs.length) W, Ext w W → Calls Tryz.prog 109 #[vs[i]] W fun e w' => e = .returned (.bool (p i)) ∧ Ext W w') (hk : IxR p vs.length k) :
    Calls Tryz.prog 132 #[.slice sa vs.length cap, .func (.func 109) #[] #[]] w fun e w' => e = .returned (.int .i64 k) ∧ Ext w w' := by
  have HF := Lib.hid hF
  have HK := Lib.hid hk
  have HS := Lib.hid hS
  clear hF hk hS
  go_enter Tryz.func132, Tryz.ntmps132
  go_wp2_with fail
  go_loopw [8] (fun idx wr => ∃ i : Nat, i ≤ vs.length ∧ idx = .int .i64 i ∧ Hid (∀ j, j < i → p j = false) ∧ Ext w wr) (fun idx _ => vs.length - (intOf idx).toNat)
  case atStart => exact ⟨0, by omega, by go_num, Lib.hid (fun j h => by omega), Ext.refl _⟩
  case round =>
    obtain ⟨i, hi, rfl, Hp, hE⟩ := hrel
    generalize wr = X at *
    by_cases hlt : i < vs.length
    · have hii : (i : Int) < (vs.length : Int) := by omega
      obtain ⟨u, hu⟩ : ∃ u, u = vs[i] := ⟨_, rfl⟩
      have hc := hE.cell (HS.out.cell i u (by rw [hu]; exact List.getElem?_eq_getElem hlt))
      obtain rfl := HS.out.addr (by omega)
      have hf := HF.out i hlt X hE
      rw [← hu] at hf
      have Hf := Lib.hid hf
      clear hf hu
      cases hpi : p i
      · rw [hpi] at Hf
        have Hpi := Lib.hid hpi
        clear hpi
        go_wp2_with fail
        refine Hf.out.mono ?_
        rintro e W ⟨rfl, hE2⟩
        go_wp2_with fail
        go_roundw
        case rel => exact ⟨i + 1, by omega, by go_num, Lib.hid (fun j hj => by
          by_cases e : j = i
          · subst e; exact Hpi.out
          · exact Hp.out j (by omega)), hE.trans hE2⟩
        case measure => simp [intOf] <;> omega
      · rw [hpi] at Hf
        have Hki := Lib.hid (IxR_at HK.out hlt hpi Hp.out)
        clear hpi
        go_wp2_with fail
        refine Hf.out.mono ?_
        rintro e W ⟨rfl, hE2⟩
        go_wp2_with fail
        go_ret
        exact ⟨by rw [Hki.out]; rfl, hE.trans hE2⟩
    · have Hki := Lib.hid (IxR_no HK.out (fun j hj => Hp.out j (by omega)))
      go_wp2_with fail
      go_ret
      exact ⟨by rw [Hki.out]; rfl, hE⟩
set_option maxRecDepth 100000 in
theorem contains_isZero {w : World} {sa : Option Addr} {gb go cap : Nat} {vs : List Value} {p : Nat → Bool} (hS : Sl w sa gb go vs) (hl : vs.length ≤ 1000000)
    (hF : ∀ i (h : i < vs.length) W, Ext w W → Calls Tryz.prog 109 #[vs[i]] W fun e w' => e = .returned (.bool (p i)) ∧ Ext W w') :
    Calls Tryz.prog 95 #[.slice sa vs.length cap, .func (.func 109) #[] #[]] w fun e w' => e = .returned (.bool (anyB p vs.length)) ∧ Ext w w' := by
  obtain ⟨k, hk⟩ := IxR_ex p vs.length
  have Hge := Lib.hid (IxR_ge hk)
  have HI := Lib.hid (index_isZero (cap := cap) hS hl hF hk)
  clear hS hF hk
  go_enter Tryz.func95, Tryz.ntmps95
  go_wp2_with fail
  refine HI.out.mono ?_
  rintro e W ⟨rfl, hE⟩
  go_wp2_with fail
  go_ret
  exact ⟨by rw [← Hge.out]; rfl, hE⟩
end Go.Proofs.YtcklioolpicmcaaGreatDoor
namespace Go.Proofs.YtcklioolpicmcaaGreatDoor
open Go.RowKit Go.Sort
theorem isZeroC_any (z : Int) (w : World) : Calls Tryz.prog 109 #[.int .i64 z] w fun e w' => e = .returned (.bool (decide (z ≠ 0))) ∧ Ext w w' := by
  by_cases h : z = 0
  · subst h
    go_enter Tryz.func109, Tryz.ntmps109
    go_wp2
    go_ret
    exact ⟨rfl, Ext.refl _⟩
  · have hb : decide (z ≠ 0) = true := decide_eq_true h
    rw [hb]
    have h1 : (z == 0) = false := beq_eq_false_iff_ne.2 h
    have h2 : (z != 0) = true := by simp [bne, h1]
    clear hb
    go_enter Tryz.func109, Tryz.ntmps109
    go_wp2
    go_ret
    exact ⟨rfl, Ext.refl _⟩
def zeroB (l : List Int) : Bool := l.all fun z => decide (z = 0)
theorem zeroB_any (l : List Int) : anyB (fun i => decide (l.getD i 0 ≠ 0)) l.length = !zeroB l := by
  cases hz : zeroB l
  · have : ∃ z, z ∈ l ∧ z ≠ 0 := by
      refine Classical.byContradiction fun hc => ?_
      have h2 : zeroB l = true := List.all_eq_true.2 fun z hz => decide_eq_true (Classical.byContradiction fun h => hc ⟨z, hz, h⟩)
      rw [hz] at h2; cases h2
    obtain ⟨z, hz2, hne⟩ := this
    obtain ⟨i, hi, rfl⟩ := List.getElem_of_mem hz2
    exact anyB_iff.2 ⟨i, hi, decide_eq_true (by rw [getD_get hi]; exact hne)⟩
  · refine anyB_no fun i hi => decide_eq_false fun h => h ?_
    rw [getD_get hi]
    exact of_decide_eq_true (List.all_eq_true.1 hz _ (List.getElem_mem hi))
theorem isZero_any {w : World} {v : Value} {x : List Int} (hR : RowR w v x) (hl : x.length ≤ 1000000) :
    Calls Tryz.prog 61 #[v] w fun e w' => e = .returned (.bool (zeroB x)) ∧ Ext w w' := by
  obtain ⟨sa, gb, go, cap, rfl, hc, hS⟩ := hR
  have hcn := contains_isZero (cap := cap) (p := fun i => decide (x.getD i 0 ≠ 0)) hS (by simp; omega) (fun k hk W hW => by
    have hk' : k < x.length := by simpa using hk
    have e : (is x)[k] = .int .i64 (x.getD k 0) := by rw [getD_get hk']; simp [is]
    rw [e]; exact isZeroC_any _ W)
  rw [is_length, zeroB_any] at hcn
  have Hcn := Lib.hid hcn
  clear hcn hS
  generalize zeroB x = q at *
  go_enter Tryz.func61, Tryz.ntmps61
  go_wp2_with fail
  refine Hcn.out.mono ?_
  rintro e W ⟨rfl, hW⟩
  go_wp2_with fail
  go_ret
  exact ⟨by simp, hW⟩
end Go.Proofs.YtcklioolpicmcaaGreatDoor
namespace Go.Proofs.YtcklioolpicmcaaGreatDoor
open Go.RowKit Go.Sort
def cbTo (M : Mx) (l : List Int) (c k j : Nat) : List Int := (List.range c).map fun i => sumZ (fun t => vr l t * eM M t i) k + if i < j then vr l k * eM M k i else 0
theorem cbTo_length (M : Mx) (l : List Int) (c k j : Nat) : (cbTo M l c k j).length = c := by simp [cbTo]
theorem cbTo_get (M : Mx) (l : List Int) {c k j i : Nat} (h : i < c) : (cbTo M l c k j)[i]'(by rw [cbTo_length]; exact h) = sumZ (fun t => vr l t * eM M t i) k + if i < j then vr l k * eM M k i else 0 := by simp [cbTo]
theorem cbTo_zero (M : Mx) (l : List Int) (c : Nat) : cbTo M l c 0 0 = List.replicate c 0 := by
  refine List.ext_getElem (by simp [cbTo]) fun i h1 h2 => ?_
  rw [cbTo_get M l (by simpa [cbTo] using h1)]
  simp [sumZ]
theorem cbTo_next (M : Mx) (l : List Int) (c k : Nat) : cbTo M l c k c = cbTo M l c (k + 1) 0 := by
  refine List.ext_getElem (by simp [cbTo]) fun i h1 h2 => ?_
  have hi : i < c := by simpa [cbTo] using h1
  rw [cbTo_get M l hi, cbTo_get M l hi, if_pos hi, if_neg (by omega)]
  show sumZ (fun t => vr l t * eM M t i) k + vr l k * eM M k i = (sumZ (fun t => vr l t * eM M t i) k + vr l k * eM M k i) + 0
  rw [Int.add_zero]
theorem cbTo_step (M : Mx) (l : List Int) {c k j : Nat} : (cbTo M l c k j).set j (sumZ (fun t => vr l t * eM M t j) k + vr l k * eM M k j) = cbTo M l c k (j + 1) := by
  refine List.ext_getElem (by simp [cbTo]) fun i h1 h2 => ?_
  have hi : i < c := by simpa [cbTo] using h2
  rw [List.getElem_set]
  by_cases e : j = i
  · subst e; rw [if_pos rfl, cbTo_get M l hi, if_pos (by omega)]
  · rw [if_neg e, cbTo_get M l hi, cbTo_get M l hi]
    by_cases h3 : i < j
    · rw [if_pos h3, if_pos (by omega)]
    · rw [if_neg h3, if_neg (by omega)]
theorem sumZ_bd {f : Nat → Int} {B : Int} (h : ∀ t, -B ≤ f t ∧ f t ≤ B) (k : Nat) : -((k : Int) * B) ≤ sumZ f k ∧ sumZ f k ≤ (k : Int) * B := by
  induction k with
  | zero => simp [sumZ]
  | succ k ih =>
    obtain ⟨h1, h2⟩ := ih
    obtain ⟨h3, h4⟩ := h k
    have e : ((k + 1 : Nat) : Int) * B = (k : Int) * B + B := by rw [Int.natCast_add, Int.add_mul]; simp
    rw [e]
    have e2 : sumZ f (k + 1) = sumZ f k + f k := rfl
    rw [e2]
    constructor <;> omega
theorem CbOk.term {M : Mx} {l : List Int} {c : Nat} (h : CbOk M l c) (t i : Nat) : -9000000000 ≤ vr l t * eM M t i ∧ vr l t * eM M t i ≤ 9000000000 := by
  have h1 : -1000000000 ≤ vr l t ∧ vr l t ≤ 1000000000 := by
    unfold vr
    by_cases ht : t < l.length
    · rw [getD_get ht]; exact h.fac _ (List.getElem_mem ht)
    · have : l.getD t 0 = 0 := by simp [List.getD, List.getElem?_eq_none (Nat.le_of_not_lt ht)]
      rw [this]; omega
  have h2 : -9 ≤ eM M t i ∧ eM M t i ≤ 9 := by
    unfold eM
    by_cases ht : t < M.length
    · rw [getD_get ht]
      by_cases hi : i < M[t].length
      · rw [getD_get hi]; exact h.ent _ (List.getElem_mem ht) _ (List.getElem_mem hi)
      · have : M[t].getD i 0 = 0 := by simp [List.getD, List.getElem?_eq_none (Nat.le_of_not_lt hi)]
        rw [this]; omega
    · have : M.getD t [] = [] := by simp [List.getD, List.getElem?_eq_none (Nat.le_of_not_lt ht)]
      rw [this]; simp
  generalize vr l t = a at *
  generalize eM M t i = b at *
  rcases (show b = -9 ∨ b = -8 ∨ b = -7 ∨ b = -6 ∨ b = -5 ∨ b = -4 ∨ b = -3 ∨ b = -2 ∨ b = -1 ∨ b = 0 ∨ b = 1 ∨ b = 2 ∨ b = 3 ∨ b = 4 ∨ b = 5 ∨ b = 6 ∨ b = 7 ∨ b = 8 ∨ b = 9 by omega) with rfl | rfl | rfl | rfl | rfl | rfl | rfl | rfl | rfl | rfl | rfl | rfl | rfl | rfl | rfl | rfl | rfl | rfl | rfl <;> omega
theorem CbOk.sum {M : Mx} {l : List Int} {c : Nat} (h : CbOk M l c) (i : Nat) {k : Nat} (hk : k ≤ 3) : -27000000000 ≤ sumZ (fun t => vr l t * eM M t i) k ∧ sumZ (fun t => vr l t * eM M t i) k ≤ 27000000000 := by
  have := sumZ_bd (f := fun t => vr l t * eM M t i) (B := 9000000000) (fun t => h.term t i) k
  omega
theorem cb_all (M : Mx) (l : List Int) (c : Nat) : cbTo M l c M.length 0 = (List.range c).map (cmb M (vr l)) := by
  unfold cbTo cmb
  simp
end Go.Proofs.YtcklioolpicmcaaGreatDoor
namespace Go.Proofs.YtcklioolpicmcaaGreatDoor
open Hnf
theorem eM_row {M : Mx} {i : Nat} (h : M.length ≤ i) (j : Nat) : eM M i j = 0 := by
  unfold eM
  have : M.getD i [] = [] := by simp [List.getD, List.getElem?_eq_none h]
  rw [this]; simp
theorem eM_col {M : Mx} {c i j : Nat} (hM : Rect c M) (h : c ≤ j) : eM M i j = 0 := by
  by_cases hi : i < M.length
  · unfold eM
    rw [getD_get hi]
    have := hM _ (List.getElem_mem hi)
    simp [List.getD, List.getElem?_eq_none (show M[i].length ≤ j by omega)]
  · exact eM_row (by omega) j
theorem cmb_T3 {M : Mx} (h : M.length ≤ 3) (y : V) (j : Nat) : cmb M y j = T3 (eM M) y j := by
  unfold cmb T3
  rcases (show M.length = 0 ∨ M.length = 1 ∨ M.length = 2 ∨ M.length = 3 by omega) with e | e | e | e
  · rw [e, eM_row (i := 0) (by omega), eM_row (i := 1) (by omega), eM_row (i := 2) (by omega)]; simp [sumZ]
  · rw [e, eM_row (i := 1) (by omega), eM_row (i := 2) (by omega)]; simp [sumZ]
  · rw [e, eM_row (i := 2) (by omega)]; simp [sumZ]
  · rw [e]; simp [sumZ]
def cmbL (M : Mx) (l : List Int) (c : Nat) : List Int := (List.range c).map (cmb M (vr l))
end Go.Proofs.YtcklioolpicmcaaGreatDoor
namespace Go.Proofs.YtcklioolpicmcaaGreatDoor
open Go.RowKit Go.Sort
set_option maxRecDepth 100000 in
set_option maxHeartbeats 2000000 in
theorem Combine08_any {w : World} {vm vl : Value} {M : Mx} {l : List Int} {c : Nat} (hM : MatR w vm M) (hl : RowR w vl l) (h : CbOk M l c) :
    Calls Tryz.prog 17 #[vm, vl, .int .i64 c] w fun e w' => ∃ v, e = .returned v ∧ RowV w.heap.size w' v ((List.range c).map (cmb M (vr l))) ∧ Ext w w' := by
  obtain ⟨sa, gb, go, cap, vs, rfl, hcap, hvl, hS, hr⟩ := id hM
  obtain ⟨sl, bl, ol, cl, rfl, hcl, hSl⟩ := hl
  obtain ⟨i0, hi, hz0, hz1, hz2⟩ := info_parts Tryz.infoInt
  have H := Lib.hid h
  obtain ⟨N, hN⟩ : ∃ N, N = M.length := ⟨_, rfl⟩
  have hN3 : N ≤ 3 := by rw [hN]; exact h.n3
  have hc3 := h.c3
  have hll : l.length = N := by rw [hN]; exact h.len
  have HrowM := Lib.hid (fun k (hk : k < M.length) => MatR.row hS hvl hr hk)
  have Haddr := Lib.hid hS.addr
  have Hvl := Lib.hid hvl
  have HN := Lib.hid hN
  have HSl := Lib.hid hSl
  have Hll := Lib.hid hll
  rw [hll] at hcl ⊢
  rw [← hN] at hcap ⊢
  clear hM h hN hll hS hr hvl hSl
  go_enter Tryz.func17, Tryz.ntmps17
  go_wp2_with (at_make; refine wpList_make_full _ rfl _ _ 32 rfl w.heap.size 3 i0 (.int .i64 0) 1 Tryz.underlying32 hi hz0 hz1 .i64 .i64 _ _ c rfl rfl (by omega) (by omega) (by rw [hz2]; omega) (by unfold maxLen; omega) (Nat.le_refl _) ?_; intro w1 hown1 hgrow1)
  have hE1 := ext_grown hgrow1
  obtain ⟨g, hg⟩ : ∃ g, g = w.heap.size := ⟨_, rfl⟩
  have hb0 : OwnV 3 w.heap.size w1 w.heap.size c (is (List.replicate c 0)) := row_ownV (zero_row hown1) (by simp)
  rw [← hg] at hb0 ⊢
  have HO1 := Lib.hid hb0
  have hgle : w.heap.size ≤ g := by omega
  clear hown1 hgrow1 hb0 hg hi hz0 hz1 hz2
  go_wp2_with fail
  go_loopw [8] (fun kv wr => ∃ k : Nat, k ≤ N ∧ kv = .int .i64 k ∧ Hid (OwnV 3 g wr g c (is (cbTo M l c k 0))) ∧ Ext w wr) (fun kv _ => N - (intOf kv).toNat)
  case atStart => exact ⟨0, by omega, by go_num, Lib.hid (by rw [cbTo_zero]; exact HO1.out), hE1⟩
  case round =>
    obtain ⟨k, hk, rfl, hO, hE⟩ := hrel
    generalize wr = X at *
    by_cases hlt : k < N
    · have hki : (k : Int) < (N : Int) := by omega
      have hkM : k < M.length := by rw [← HN.out]; exact hlt
      obtain ⟨sr, br, or, cr, hcell, hcr, hSr⟩ := HrowM.out k hkM
      have ha := Haddr.out (by rw [Hvl.out]; omega)
      obtain rfl := ha
      have hrl : M[k].length = c := H.out.rect _ (List.getElem_mem hkM)
      rw [hrl] at hcell hcr
      have HSr := Lib.hid hSr
      have Hrl := Lib.hid hrl
      have hcX := hE.cell hcell
      clear hSr hrl
      go_wp2_with fail
      go_loopw [9] (fun jv wr => ∃ j : Nat, j ≤ c ∧ jv = .int .i64 j ∧ Hid (OwnV 3 g wr g c (is (cbTo M l c k j))) ∧ Ext w wr) (fun jv _ => c - (intOf jv).toNat)
      case atStart => exact ⟨0, by omega, by go_num, hO, hE⟩
      case round =>
        obtain ⟨j, hj, rfl, hO, hE⟩ := hrel
        generalize wr = Y at *
        replace hcX := hE.cell hcell
        by_cases hlt2 : j < c
        · have hji : (j : Int) < (c : Int) := by omega
          have c1 := hO.out.cell (j := j) (by rw [is_length, cbTo_length]; exact hlt2)
          obtain ⟨a, ha⟩ : ∃ a, a = sumZ (fun t => vr l t * eM M t j) k := ⟨_, rfl⟩
          have h1 : (is (cbTo M l c k j))[j]'(by rw [is_length, cbTo_length]; exact hlt2) = .int .i64 a := by
            have := cbTo_get M l (k := k) (j := j) hlt2
            rw [if_neg (by omega), Int.add_zero] at this
            rw [ha, ← this]; simp [is]
          rw [h1] at c1
          obtain ⟨b, hb⟩ : ∃ b, b = vr l k := ⟨_, rfl⟩
          obtain ⟨d, hd⟩ : ∃ d, d = eM M k j := ⟨_, rfl⟩
          have c2 := (HSl.out.ext hE).cell k (.int .i64 b) (by
            have hkl : k < l.length := by rw [Hll.out]; exact hlt
            rw [hb, is_get hkl]; unfold vr; rw [getD_get hkl])
          have c3 := (HSr.out.ext hE).cell j (.int .i64 d) (by
            have hjl : j < M[k].length := by rw [Hrl.out]; exact hlt2
            rw [hd, is_get hjl]; unfold eM; rw [getD_get hkM, getD_get hjl])
          obtain rfl := HSl.out.addr (by rw [is_length, Hll.out]; omega)
          obtain rfl := HSr.out.addr (by rw [is_length, Hrl.out]; omega)
          have m1 := H.out.term k j
          have m2 := H.out.sum j (k := k) (by omega)
          have Hst := Lib.hid (cbTo_step M l (c := c) (k := k) (j := j))
          rw [← ha, ← hb, ← hd] at Hst
          rw [← hb, ← hd] at m1
          rw [← ha] at m2
          have w1' : IntKind.i64.wrap (b * d) = b * d := IntWalk.i64_in _ (by omega)
          have w2' : IntKind.i64.wrap (a + b * d) = a + b * d := IntWalk.i64_in _ (by omega)
          have k1 := cell_regrown c1
          have k2 := cell_regrown c2
          have k3 := cell_regrown c3
          have k4 := cell_regrown hcX
          have q1 := c1
          clear ha hb hd h1 m1 m2
          go_wp2_with fail
          refine wp_region_quiet_tail 18 (by kernel_rfl) (by kernel_rfl) ?_
          simp only [List.take_succ_cons, List.take_zero, List.drop_succ_cons, List.drop_zero]
          repeat (go_big_quiet_step (fail))
          refine wpQuiet_nil ?_
          intro _ hw'
          obtain ⟨⟨dq, osq⟩, hw''⟩ := hw'
          subst hw''
          have hE5 := ext_regrown Y dq osq
          have d5 := hE5.cell q1
          clear k1 k2 k3 k4
          generalize grow (redrawn Y dq) osq = w5 at *
          have f5 := (hO.out.ext hE5).frozen j
          obtain ⟨hO6, hG6⟩ := (hO.out.ext hE5).set j (.int .i64 (a + b * d))
          rw [← is_set, Hst.out] at hO6
          have HO6 := Lib.hid hO6
          have hE6 := Lib.hid (ext_trans_grown (hE.trans hE5) hG6 hgle)
          clear hO6 hG6 hE5
          go_wp2_with fail
          go_roundw
          case rel => exact ⟨j + 1, by omega, by go_num, HO6, hE6.out⟩
          case measure => simp [intOf] <;> omega
        · have hje : j = c := by omega
          have hji : ¬ (j : Int) < (c : Int) := by omega
          have HO7 := Lib.hid (show OwnV 3 g Y g c (is (cbTo M l c (k + 1) 0)) by have h2 := hO.out; rw [hje, cbTo_next] at h2; exact h2)
          clear hje
          go_wp2_with fail
          go_roundw
          case rel => exact ⟨k + 1, by omega, by go_num, HO7, hE⟩
          case measure => simp [intOf] <;> omega
    · have hke : k = N := by omega
      have hki : ¬ (k : Int) < (N : Int) := by omega
      have Hres := Lib.hid (show RowV w.heap.size X (.slice (some ⟨g, 0, none⟩) c c) ((List.range c).map (cmb M (vr l))) by
        have h2 := hO.out
        rw [hke, HN.out, cb_all] at h2
        have h3 := h2.mono hgle
        unfold OwnV at h3
        unfold RowV
        simpa using h3)
      clear hke
      go_wp2_with fail
      go_ret
      exact ⟨_, rfl, Hres.out, hE⟩
end Go.Proofs.YtcklioolpicmcaaGreatDoor
namespace Go.Proofs.YtcklioolpicmcaaGreatDoor
open Go.RowKit Go.Sort
theorem Solve_nil {w : World} {sa : Option Addr} {cap : Nat} {vb : Value} {b : List Int} (hb : RowR w vb b) (hs0 : sizeE [] b = 0) (hl : b.length ≤ 64) :
    Calls Tryz.prog 20 #[.slice sa 0 cap, vb] w fun e w' => e = .returned (.tuple #[.slice none 0 0, .bool (zeroB b), .int .i64 0]) ∧ Ext w w' := by
  have hM : MatR w (.slice sa 0 cap) [] := ⟨sa, 0, 0, cap, [], rfl, Nat.zero_le _, rfl, Sl.nil _ _ _ _, fun i h => by simp at h⟩
  have hM' : MatR w (.slice none 0 0) [] := ⟨none, 0, 0, 0, [], rfl, Nat.zero_le _, rfl, Sl.nil _ _ _ _, fun i h => by simp at h⟩
  have hsz := Lib.hid (sized_any hM hb)
  rw [hs0] at hsz
  have hz := Lib.hid (fun W (hW : Ext w W) => isZero_any (hb.ext hW) (by omega))
  clear hM hM' hb hs0 hl
  generalize zeroB b = z at *
  go_enter Tryz.func20, Tryz.ntmps20
  go_wp2_with fail
  refine hsz.out.mono ?_
  rintro e w1 ⟨rfl, hE1⟩
  go_wp2_with fail
  refine (hz.out w1 hE1).mono ?_
  rintro e w2 ⟨rfl, hE2⟩
  go_wp2_with fail
  go_ret3
  exact ⟨rfl, hE1.trans hE2⟩
end Go.Proofs.YtcklioolpicmcaaGreatDoor
namespace Go.Proofs.YtcklioolpicmcaaGreatDoor
open Go.RowKit Go.Sort
theorem sc_lim {N c : Nat} (hN : N ≤ 3) (hc : c ≤ 3) : 2 * ((bC N 30 (c + N) + (bC N 30 (c + N) + 1) * N) + ((bC N 30 (c + N) + (bC N 30 (c + N) + 1) * N) + 1) * N) + 6 < LIM := by
  rcases (show N = 0 ∨ N = 1 ∨ N = 2 ∨ N = 3 by omega) with rfl | rfl | rfl | rfl <;> rcases (show c = 0 ∨ c = 1 ∨ c = 2 ∨ c = 3 by omega) with rfl | rfl | rfl | rfl <;> decide
theorem chkRow_small {b : List Int} (hl : b.length ≤ 3) (hb2 : ∀ z ∈ b, -1000000000 ≤ z ∧ z ≤ 1000000000) : chkRow b = 0 := by
  unfold chkRow
  rw [if_neg (by omega)]
  have h5 : b.any grt = false := by
    rw [List.any_eq_false]
    intro z hz
    have := hb2 z hz
    unfold grt
    simp only [decide_eq_true_eq]
    omega
  rw [h5]; rfl
end Go.Proofs.YtcklioolpicmcaaGreatDoor
namespace Go.Proofs.YtcklioolpicmcaaGreatDoor
open Go.RowKit Go.Sort
def row8 (z : List Int) (n : Nat) : List Int := (z.take n).map fun y => y.tmod 41
theorem row8_length {z : List Int} {n : Nat} (h : n ≤ z.length) : (row8 z n).length = n := by simp [row8]; omega
theorem row8_snoc {z : List Int} {n : Nat} (h : n < z.length) : row8 z n ++ [z[n].tmod 41] = row8 z (n + 1) := by
  unfold row8
  rw [List.take_succ_eq_append_getElem h, List.map_append]
  rfl
theorem row8_b {z : List Int} {n : Nat} : ∀ y ∈ row8 z n, -40 ≤ y ∧ y ≤ 40 := fun y hy => by
  obtain ⟨x, _, rfl⟩ := List.mem_map.1 hy
  have h1 := Int.tmod_lt_of_pos x (b := 41) (by omega)
  have h2 := Int.lt_tmod_of_pos x (b := 41) (by omega)
  omega
set_option maxRecDepth 100000 in
set_option maxHeartbeats 1000000 in
theorem Row08_any {w : World} {z0 z1 z2 : Int} {n : Nat} (hn : n ≤ 3) (h0 : -128 ≤ z0 ∧ z0 ≤ 127) (h1 : -128 ≤ z1 ∧ z1 ≤ 127) (h2 : -128 ≤ z2 ∧ z2 ≤ 127) :
    Calls Tryz.prog 18 #[.agg #[.int .i8 z0, .int .i8 z1, .int .i8 z2], .int .i64 n] w fun e w' => ∃ v, e = .returned v ∧ RowV w.heap.size w' v (row8 [z0, z1, z2] n) ∧ Ext w w' := by
  have hEw := (Ext.refl w).alloc (.cells #[.int .i8 z0, .int .i8 z1, .int .i8 z2] 26)
  have hcell := Lib.hid (fun (j : Nat) (hj : j < 3) => (show (w.alloc (.cells #[.int .i8 z0, .int .i8 z1, .int .i8 z2] 26)).cell? ⟨w.heap.size, j, none⟩ = some (.int .i8 (([z0, z1, z2] : List Int)[j]'hj)) from by
    rcases (show j = 0 ∨ j = 1 ∨ j = 2 by omega) with rfl | rfl | rfl <;> go_simp))
  have hb := Lib.hid (show ∀ y ∈ ([z0, z1, z2] : List Int), -128 ≤ y ∧ y ≤ 127 from fun y hy => by
    simp only [List.mem_cons, List.not_mem_nil, or_false] at hy
    rcases hy with rfl | rfl | rfl <;> assumption)
  have hsz : w.heap.size < (w.alloc (.cells #[.int .i8 z0, .int .i8 z1, .int .i8 z2] 26)).heap.size := by simp
  have hzl : ([z0, z1, z2] : List Int).length = 3 := rfl
  go_enter Tryz.func18, Tryz.ntmps18
  go_wp2_with fail
  generalize (w.alloc (.cells #[.int .i8 z0, .int .i8 z1, .int .i8 z2] 26)) = V at *
  have Hz := Lib.hid hzl
  clear h0 h1 h2 hzl
  go_loopw [5, 6] (fun out idx wr => ∃ k : Nat, k ≤ n ∧ idx = .int .i64 k ∧ Hid (RowV V.heap.size wr out (row8 [z0, z1, z2] k)) ∧ Ext V wr) (fun _ idx _ => n - (intOf idx).toNat)
  case atStart => exact ⟨0, by omega, by go_num, Lib.hid (RowV.nil _ _), Ext.refl _⟩
  case round =>
    obtain ⟨k, hk, rfl, hO, hE⟩ := hrel
    generalize wr = X at *
    by_cases hlt : k < n
    · have hki : (k : Int) < (n : Int) := by omega
      have hk3 : (k : Int) < 3 := by omega
      have hkl : k < ([z0, z1, z2] : List Int).length := by rw [Hz.out]; omega
      have hz' := hE.cell (hcell.out k (by omega))
      have hzb := hb.out _ (List.getElem_mem hkl)
      have hsn := Lib.hid (row8_snoc hkl)
      obtain ⟨z, hz⟩ : ∃ z, z = ([z0, z1, z2] : List Int)[k] := ⟨_, rfl⟩
      rw [← hz] at hz' hzb hsn
      have Hl4 := Lib.hid (show (row8 [z0, z1, z2] k).length ≤ 1000000000 by rw [row8_length (by rw [Hz.out]; omega)]; omega)
      have hrk := row8_length (z := [z0, z1, z2]) (n := k) (by rw [Hz.out]; omega)
      have hsX := hE.size
      clear hz hkl
      generalize row8 [z0, z1, z2] k = r at *
      go_wp2_with (at_builtin; refine app_int rfl _ _ 32 Tryz.underlying32 rfl rfl (hO.out.ext ((Ext.refl _).alloc _)) rfl (b := X.heap.size) (z := z.tmod 41) (by go_simp) Hl4.out (by simp; omega) ?_; intro gg cap2 w8 hO8 hB8 hG8; rw [hrk] at hO8 ⊢)
      have hE8 : Ext V w8 := Below.trans (hE.alloc (.cells #[.int .i64 (z.tmod 41)] 3)) hB8
      rw [hsn.out] at hO8
      have hO9 := Lib.hid hO8
      clear hG8 hB8 hO8
      go_wp2_with fail
      go_roundw
      case rel => exact ⟨k + 1, by omega, by go_num, hO9, hE8⟩
      case measure => simp [intOf] <;> omega
    · have hke : k = n := by omega
      subst hke
      have Hres := Lib.hid (show RowV w.heap.size X _ (row8 [z0, z1, z2] k) from hO.out.mono (by omega))
      go_wp2_with fail
      go_ret
      exact ⟨_, rfl, Hres.out, hEw.trans hE⟩
end Go.Proofs.YtcklioolpicmcaaGreatDoor
namespace Go.Proofs.YtcklioolpicmcaaGreatDoor
open Go.RowKit Go.Sort
def KerPost (w : World) (M : Mx) (c : Nat) (e : Ending) (w' : World) : Prop :=
  ∃ H, HnfOf (c + M.length) (wideM M) H ∧ (if smallM (krn c H) = true then ∃ v, e = .returned (.tuple #[v, .int .i64 0]) ∧ MatO w.heap.size w' v (krn c H) else e = .returned (.tuple #[.slice none 0 0, .int .i64 4])) ∧ Ext w w'
set_option maxRecDepth 100000 in
set_option maxHeartbeats 1000000 in
theorem Kernel_any {w : World} {vm : Value} {M : Mx} {c : Nat} (hM : MatR w vm M) (hck : checkM M = 0) (h0 : 0 < M.length) (hc : c = ncols M) (hk : 2 * (2 * bC M.length 30 (c + M.length) + 2) + 2 < LIM) (hL : Laid w) :
    Calls Tryz.prog 32 #[vm] w (KerPost w M c) := by
  obtain ⟨hl12, hn12, hRt, hent⟩ := checkM_ok hck
  rw [← hc] at hn12 hRt
  have hch := Lib.hid (tableCheck_any hM)
  rw [hck] at hch
  have hwd := Lib.hid (fun W (hW : Ext w W) => wide_any (hM.ext hW) hRt h0 (by omega) (by omega) hent hk (hL.ext hW))
  have HL := Lib.hid hL
  have Hk := Lib.hid hk
  obtain ⟨sa, gb, go, cap, vs, rfl, hcap, hvl, hS, hr⟩ := hM
  obtain ⟨N, hN⟩ : ∃ N, N = M.length := ⟨_, rfl⟩
  have HN := Lib.hid hN
  rw [← hN] at hch hwd h0 hl12 ⊢
  clear hS hr hvl hcap hck hc hk hL hRt hent hN
  go_enter Tryz.func32, Tryz.ntmps32
  go_wp2_with fail
  refine hch.out.mono ?_
  rintro e w1 ⟨rfl, hE1⟩
  go_wp2_with fail
  refine (hwd.out _ hE1).mono ?_
  rintro e w2 ⟨g, cp, H, rfl, hH, hHl, hG, hHb, hE2⟩
  rw [← HN.out] at hHl
  obtain ⟨ps, hI⟩ := hH.1
  have hrc := hI.rect
  have hX2 := hE1.trans hE2
  have hkn := Lib.hid (kernel_any (w := w2) (c := c) (m := N) hG (by rw [HN.out]; exact hrc) h0 (by omega) (by omega))
  have hrows : ∀ r ∈ krn c H, r.length ≤ 1000000 ∧ ∀ z ∈ r, nd z ≤ LIM := fun r hr => by
    unfold krn low at hr
    obtain ⟨s, hs, rfl⟩ := List.mem_map.1 hr
    have hs' := (List.mem_filter.1 hs).1
    refine ⟨by rw [List.length_drop, hrc s hs', ← HN.out]; omega, fun z hz => ?_⟩
    have := nd_lt2 (hHb s hs' z (List.mem_of_mem_drop hz))
    have := Hk.out
    omega
  have hkl := krn_len2 c H
  have hsm := Lib.hid (fun W v (hW : Ext w W) (hK : GridR W v (krn c H)) => ssmall_any hK (by omega) (fun r hr => (hrows r hr).1) (fun r hr => (hrows r hr).2) (HL.out.ext hW))
  have HH := Lib.hid hH
  clear hH hI hrc hG hHb hrows hE1 hE2 hwd hch
  go_wp2_with fail
  refine hkn.out.mono ?_
  rintro e w3 ⟨vk, rfl, hK, hE3⟩
  have hX3 := hX2.trans hE3
  have hs3 := Lib.hid (hsm.out w3 vk hX3 hK)
  clear hK hkn hE3 hsm
  go_wp2_with fail
  refine hs3.out.mono ?_
  rintro e w4 ⟨hp, hE4⟩
  have hX4 := hX3.trans hE4
  have hsz := hX3.size
  by_cases hb : smallM (krn c H) = true
  · rw [if_pos hb] at hp
    obtain ⟨v, rfl, hv⟩ := hp
    have Hres := Lib.hid (show KerPost w M c (.returned (.tuple #[v, .int .i64 0])) w4 from ⟨H, HH.out, by rw [if_pos hb]; exact ⟨v, rfl, hv.mono hsz⟩, hX4⟩)
    clear hb hv
    go_wp2_with fail
    go_ret2
    exact Hres.out
  · rw [if_neg hb] at hp
    subst hp
    have Hres := Lib.hid (show KerPost w M c (.returned (.tuple #[.slice none 0 0, .int .i64 4])) w4 from ⟨H, HH.out, by rw [if_neg hb], hX4⟩)
    clear hb
    go_wp2_with fail
    go_ret2
    exact Hres.out
end Go.Proofs.YtcklioolpicmcaaGreatDoor
