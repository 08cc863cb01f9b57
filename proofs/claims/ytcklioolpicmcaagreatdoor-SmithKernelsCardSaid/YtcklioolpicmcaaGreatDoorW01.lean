/- Part 1, beside the shared parts, of the proof of the claim: contracts and plain laws; no condition. -/
import Derived.Test.YtcklioolpicmcaaGreatDoorV01
import Derived.Test.YtcklioolpicmcaaGreatDoorV02
import Derived.Test.YtcklioolpicmcaaGreatDoorV03
import Derived.Test.YtcklioolpicmcaaGreatDoorV04
import Derived.Test.YtcklioolpicmcaaGreatDoorV05
import Derived.Test.YtcklioolpicmcaaGreatDoorV06
import Derived.Test.YtcklioolpicmcaaGreatDoorV07
import Derived.Test.YtcklioolpicmcaaGreatDoorV08
import Derived.Test.YtcklioolpicmcaaGreatDoorV09
import Derived.Test.YtcklioolpicmcaaGreatDoorV10
import Derived.Test.YtcklioolpicmcaaGreatDoorV11
import Derived.Test.YtcklioolpicmcaaGreatDoorV12
import Derived.Test.YtcklioolpicmcaaGreatDoorV13
import Derived.Test.YtcklioolpicmcaaGreatDoorV14
import Derived.Test.YtcklioolpicmcaaGreatDoorV15
import Derived.Test.YtcklioolpicmcaaGreatDoorV16
import Derived.Test.YtcklioolpicmcaaGreatDoorV17
import Derived.Test.YtcklioolpicmcaaGreatDoorV18
import Derived.Test.YtcklioolpicmcaaGreatDoorV19
import Derived.Test.YtcklioolpicmcaaGreatDoorV20
import Derived.Test.YtcklioolpicmcaaGreatDoorV21
import Derived.Test.YtcklioolpicmcaaGreatDoorV22
import Derived.Test.YtcklioolpicmcaaGreatDoorV23
import Derived.Test.YtcklioolpicmcaaGreatDoorV24
import Derived.Test.YtcklioolpicmcaaGreatDoorV25
import Derived.Test.YtcklioolpicmcaaGreatDoorV26
import Derived.Test.YtcklioolpicmcaaGreatDoorV27
import Derived.Test.YtcklioolpicmcaaGreatDoorV28
import Derived.Test.YtcklioolpicmcaaGreatDoorV29
import Derived.Test.YtcklioolpicmcaaGreatDoorV30
import Derived.BigQuiet
namespace Go.Proofs.YtcklioolpicmcaaGreatDoor
open Hnf (V Span Ech Red)
theorem eM_far {c : Nat} {M : Mx} (hR : Rect c M) {i j : Nat} (hj : c ≤ j) : eM M i j = 0 := by
  unfold eM
  rcases Nat.lt_or_ge i M.length with hi | hi
  · rw [getD_get hi, List.getD_eq_getElem?_getD, List.getElem?_eq_none (by rw [hR _ (List.getElem_mem hi)]; exact hj)]; rfl
  · simp only [List.getD_eq_getElem?_getD]; rw [List.getElem?_eq_none hi]; rfl
theorem span_cmb {M : Mx} {v : V} : Span (latM M) v ↔ ∃ y, v = cmb M y := by
  constructor
  · intro h
    induction h with
    | zero => exact ⟨fun _ => 0, by funext j; exact (cmb_zero M j).symm⟩
    | @step v r q _ hr ih =>
      obtain ⟨y, rfl⟩ := ih
      obtain ⟨x, hx, rfl⟩ := List.mem_map.1 hr
      obtain ⟨i, hi, rfl⟩ := List.getElem_of_mem hx
      refine ⟨Hnf.sub y q (fun k => if k = i then 1 else 0), ?_⟩
      funext j
      rw [cmb_sub]
      have e2 : cmb M (fun k => if k = i then 1 else 0) j = eM M i j := by
        unfold cmb
        rw [sumZ_one (k := i) hi (fun t _ ht => by simp only [if_neg ht]; simp)]
        simp
      rw [e2, eM_vr hi]; rfl
  · rintro ⟨y, rfl⟩
    have hs := span_sum (M := latM M) (f := fun i => vr (M.getD i [])) y (n := M.length) (fun i hi => by
      rw [getD_get hi]; exact .mem (List.mem_map.2 ⟨_, List.getElem_mem _, rfl⟩))
    exact hs
theorem eM_map_take {c : Nat} {H : Mx} {i j : Nat} (hj : j < c) : eM (H.map (List.take c)) i j = eM H i j := by
  unfold eM
  rcases Nat.lt_or_ge i H.length with hi | hi
  · rw [getD_map (List.take c) H i hi [] [], getD_take hj]
  · rw [show (H.map (List.take c)).getD i [] = [] by rw [List.getD_eq_getElem?_getD, List.getElem?_eq_none (by simpa using hi)]; rfl, show H.getD i [] = [] by rw [List.getD_eq_getElem?_getD, List.getElem?_eq_none hi]; rfl]
theorem eM_take {H : Mx} {u i j : Nat} (h : i < u) : eM (H.take u) i j = eM H i j := by
  unfold eM; simp only [List.getD_eq_getElem?_getD, List.getElem?_take, if_pos h]
theorem getD_takeN {l : List Nat} {u i : Nat} (h : i < u) : (l.take u).getD i 0 = l.getD i 0 := by
  simp only [List.getD_eq_getElem?_getD, List.getElem?_take, if_pos h]
theorem IsH.leftU {n c u : Nat} {ps : List Nat} {H : Mx} (h : IsH n ps H) (hc : c ≤ n) (hu : u ≤ H.length) (hp : ∀ i, i < u → ps.getD i 0 < c) : IsH c (ps.take u) ((H.take u).map (List.take c)) := by
  have hl : ((H.take u).map (List.take c)).length = u := by simp; omega
  have hpl := h.len
  refine ⟨fun r hr => ?_, by simp; omega, fun i hi => ?_, fun i k hik hk => ?_, fun i hi j hj => ?_, fun i hi => ?_, fun i k hik hk => ?_⟩
  · obtain ⟨s, hs, rfl⟩ := List.mem_map.1 hr
    rw [List.length_take, h.rect s (List.mem_of_mem_take hs)]; omega
  · rw [getD_takeN (by omega)]; exact hp i (by omega)
  · rw [getD_takeN (by omega), getD_takeN (by omega)]; exact h.inc i k hik (by omega)
  · rw [getD_takeN (by omega)] at hj
    have := hp i (by omega)
    rw [eM_map_take (by omega), eM_take (by omega)]; exact h.left i (by omega) j hj
  · rw [getD_takeN (by omega), eM_map_take (hp i (by omega)), eM_take (by omega)]; exact h.pos i (by omega)
  · rw [getD_takeN (by omega), eM_map_take (hp k (by omega)), eM_map_take (hp k (by omega)), eM_take (by omega), eM_take (by omega)]; exact h.red i k hik (by omega)
end Go.Proofs.YtcklioolpicmcaaGreatDoor
namespace Go.Proofs.YtcklioolpicmcaaGreatDoor
open Hnf (V Span Ech Red)
theorem span_cut {c : Nat} {A B : List V} (hAB : ∀ r ∈ A, Span B (fun j => if j < c then r j else 0)) {v : V} (h : Span A v) : Span B (fun j => if j < c then v j else 0) := by
  induction h with
  | zero => exact span_of_eq .zero fun j => by simp
  | @step v r q _ hr ih =>
    refine span_of_eq (ih.sub q (hAB r hr)) fun j => ?_
    simp only [Hnf.sub]; split <;> simp
theorem lat_at {H : Mx} {v : V} (h : v ∈ latM H) : ∃ i, i < H.length ∧ v = vr (H.getD i []) := by
  obtain ⟨r, hr, rfl⟩ := List.mem_map.1 h
  obtain ⟨i, hi, rfl⟩ := List.getElem_of_mem hr
  exact ⟨i, hi, by rw [getD_get hi]⟩
theorem eM_vrD (H : Mx) (i j : Nat) : vr (H.getD i []) j = eM H i j := rfl
theorem left_form {c : Nat} {M H : Mx} (hM : Rect c M) (hH : HnfOf (c + M.length) (wideM M) H) :
    ∃ qs, IsH c qs ((upr c H).map (List.take c)) ∧ (∀ v ∈ latM ((upr c H).map (List.take c)), Span (latM M) v) ∧ (∀ v ∈ latM M, Span (latM ((upr c H).map (List.take c))) v) := by
  obtain ⟨⟨ps, hI⟩, h1, h2⟩ := hH
  obtain ⟨u, hu, e1, e2, p1, p2⟩ := hI.split c
  rw [e1]
  refine ⟨ps.take u, hI.leftU (by omega) hu p1, fun v hv => ?_, fun v hv => ?_⟩
  · obtain ⟨r, hr, rfl⟩ := List.mem_map.1 hv
    obtain ⟨s, hs, rfl⟩ := List.mem_map.1 hr
    have hw := wide_span hM (h1 _ (List.mem_map.2 ⟨s, List.mem_of_mem_take hs, rfl⟩))
    refine span_cmb.2 ⟨fun i => vr s (c + i), ?_⟩
    funext j
    rw [vr_take]
    by_cases hj : j < c
    · rw [if_pos hj]; exact hw.1 j hj
    · rw [if_neg hj]; exact (sumZ_zero fun i _ => by rw [eM_far hM (by omega)]; simp).symm
  · obtain ⟨r, hr, rfl⟩ := List.mem_map.1 hv
    obtain ⟨i, hi, rfl⟩ := List.getElem_of_mem hr
    have hW : Span (latM H) (vr ((wideM M)[i]'(by simpa using hi))) := h2 _ (List.mem_map.2 ⟨_, List.getElem_mem _, rfl⟩)
    have hc := span_cut (c := c) (B := latM ((H.take u).map (List.take c))) (fun r hr => by
      obtain ⟨k, hk, rfl⟩ := lat_at hr
      by_cases hku : k < u
      · refine .mem (List.mem_map.2 ⟨(H.getD k []).take c, List.mem_map.2 ⟨H.getD k [], ?_, rfl⟩, ?_⟩)
        · rw [getD_get hk]
          have : k < (H.take u).length := by simp; omega
          have h3 := List.getElem_mem this
          rwa [List.getElem_take] at h3
        · funext j; exact vr_take j
      · refine span_of_eq .zero fun j => ?_
        by_cases hj : j < c
        · rw [if_pos hj, eM_vrD]; exact hI.left k hk j (by have := p2 k (by omega) hk; omega)
        · rw [if_neg hj]) hW
    refine span_of_eq hc fun j => ?_
    rw [wide_vr hM hi]
    by_cases hj : j < c
    · rw [if_pos hj, if_pos hj, eM_vr hi]
    · rw [if_neg hj, ← eM_vr hi, eM_far hM (by omega)]
end Go.Proofs.YtcklioolpicmcaaGreatDoor
namespace Go.Proofs.YtcklioolpicmcaaGreatDoor
open Hnf
theorem pb9 {a b : Int} {s t : Nat} (ha : a.natAbs ≤ s) (hb : b.natAbs ≤ t) : (a * b).natAbs ≤ s * t := by
  rw [Int.natAbs_mul]; exact Nat.mul_le_mul ha hb
theorem bd1 {x D y : Int} (h : x * D = y) (hD : D ≠ 0) : x.natAbs ≤ y.natAbs := by
  rw [← h, Int.natAbs_mul]
  exact Nat.le_mul_of_pos_right _ (by omega)
end Go.Proofs.YtcklioolpicmcaaGreatDoor
namespace Go.Proofs.YtcklioolpicmcaaGreatDoor
open Hnf
def T3 (m : Nat → Nat → Int) (y : Nat → Int) (j : Nat) : Int := y 0 * m 0 j + y 1 * m 1 j + y 2 * m 2 j
theorem v3_0 (a b c : Int) : v3 a b c 0 = a := rfl
theorem v3_1 (a b c : Int) : v3 a b c 1 = b := rfl
theorem v3_2 (a b c : Int) : v3 a b c 2 = c := rfl
theorem v3_ge (a b c : Int) {i : Nat} (h : 3 ≤ i) : v3 a b c i = 0 := by unfold v3; rw [if_neg (by omega), if_neg (by omega), if_neg (by omega)]
theorem pb3 {a b : Int} {s t : Int} (ha : -s ≤ a ∧ a ≤ s) (hb : -t ≤ b ∧ b ≤ t) : -(s * t) ≤ a * b ∧ a * b ≤ s * t := by
  have h1 : a.natAbs ≤ s.toNat := by omega
  have h2 : b.natAbs ≤ t.toNat := by omega
  have h3 := pb9 h1 h2
  have h4 : ((s.toNat * t.toNat : Nat) : Int) = s * t := by rw [Int.natCast_mul]; congr 1 <;> omega
  omega
theorem lin3 {z V p q r : Int} (h : z * V = p * q + r) (hV : V ≠ 0) (hp : -162 ≤ p ∧ p ≤ 162) (hq : -162 ≤ q ∧ q ≤ 162) (hr : -19440 ≤ r ∧ r ≤ 19440) : z.natAbs ≤ 1000000 := by
  have h1 := bd1 h hV
  have h2 := pb3 hp hq
  omega
end Go.Proofs.YtcklioolpicmcaaGreatDoor
namespace Go.Proofs.YtcklioolpicmcaaGreatDoor
open Go.RowKit Go.Sort
def cbTo (M : Mx) (l : List Int) (c k j : Nat) : List Int := (List.range c).map fun i => sumZ (fun t => vr l t * eM M t i) k + if i < j then vr l k * eM M k i else 0
theorem cbTo_length (M : Mx) (l : List Int) (c k j : Nat) : (cbTo M l c k j).length = c := by simp [cbTo]
theorem cbTo_get (M : Mx) (l : List Int) {c k j i : Nat} (h : i < c) : (cbTo M l c k j)[i]'(by rw [cbTo_length]; exact h) = sumZ (fun t => vr l t * eM M t i) k + if i < j then vr l k * eM M k i else 0 := by simp [cbTo]
theorem cbTo_zero (M : Mx) (l : List Int) (c : Nat) : cbTo M l c 0 0 = List.replicate c 0 := by
  refine List.ext_getElem (by simp [cbTo]) fun i h1 h2 => ?_
  rw [cbTo_get M l (by simpa [cbTo] using h1)]
  simp [sumZ]
theorem cbTo_next (M : Mx) (l : List Int) (c k : Nat) : cbTo M l c k c = cbTo M l c (k + 1) 0 := by
  refine List.ext_getElem (by simp [cbTo]) fun i h1 h2 => ?_
  have hi : i < c := by simpa [cbTo] using h1
  rw [cbTo_get M l hi, cbTo_get M l hi, if_pos hi, if_neg (by omega)]
  show sumZ (fun t => vr l t * eM M t i) k + vr l k * eM M k i = (sumZ (fun t => vr l t * eM M t i) k + vr l k * eM M k i) + 0
  rw [Int.add_zero]
theorem cbTo_step (M : Mx) (l : List Int) {c k j : Nat} : (cbTo M l c k j).set j (sumZ (fun t => vr l t * eM M t j) k + vr l k * eM M k j) = cbTo M l c k (j + 1) := by
  refine List.ext_getElem (by simp [cbTo]) fun i h1 h2 => ?_
  have hi : i < c := by simpa [cbTo] using h2
  rw [List.getElem_set]
  by_cases e : j = i
  · subst e; rw [if_pos rfl, cbTo_get M l hi, if_pos (by omega)]
  · rw [if_neg e, cbTo_get M l hi, cbTo_get M l hi]
    by_cases h3 : i < j
    · rw [if_pos h3, if_pos (by omega)]
    · rw [if_neg h3, if_neg (by omega)]
theorem sumZ_bd {f : Nat → Int} {B : Int} (h : ∀ t, -B ≤ f t ∧ f t ≤ B) (k : Nat) : -((k : Int) * B) ≤ sumZ f k ∧ sumZ f k ≤ (k : Int) * B := by
  induction k with
  | zero => simp [sumZ]
  | succ k ih =>
    obtain ⟨h1, h2⟩ := ih
    obtain ⟨h3, h4⟩ := h k
    have e : ((k + 1 : Nat) : Int) * B = (k : Int) * B + B := by rw [Int.natCast_add, Int.add_mul]; simp
    rw [e]
    have e2 : sumZ f (k + 1) = sumZ f k + f k := rfl
    rw [e2]
    constructor <;> omega
theorem CbOk.term {M : Mx} {l : List Int} {c : Nat} (h : CbOk M l c) (t i : Nat) : -9000000000 ≤ vr l t * eM M t i ∧ vr l t * eM M t i ≤ 9000000000 := by
  have h1 : -1000000000 ≤ vr l t ∧ vr l t ≤ 1000000000 := by
    unfold vr
    by_cases ht : t < l.length
    · rw [getD_get ht]; exact h.fac _ (List.getElem_mem ht)
    · have : l.getD t 0 = 0 := by simp [List.getD, List.getElem?_eq_none (Nat.le_of_not_lt ht)]
      rw [this]; omega
  have h2 : -9 ≤ eM M t i ∧ eM M t i ≤ 9 := by
    unfold eM
    by_cases ht : t < M.length
    · rw [getD_get ht]
      by_cases hi : i < M[t].length
      · rw [getD_get hi]; exact h.ent _ (List.getElem_mem ht) _ (List.getElem_mem hi)
      · have : M[t].getD i 0 = 0 := by simp [List.getD, List.getElem?_eq_none (Nat.le_of_not_lt hi)]
        rw [this]; omega
    · have : M.getD t [] = [] := by simp [List.getD, List.getElem?_eq_none (Nat.le_of_not_lt ht)]
      rw [this]; simp
  generalize vr l t = a at *
  generalize eM M t i = b at *
  rcases (show b = -9 ∨ b = -8 ∨ b = -7 ∨ b = -6 ∨ b = -5 ∨ b = -4 ∨ b = -3 ∨ b = -2 ∨ b = -1 ∨ b = 0 ∨ b = 1 ∨ b = 2 ∨ b = 3 ∨ b = 4 ∨ b = 5 ∨ b = 6 ∨ b = 7 ∨ b = 8 ∨ b = 9 by omega) with rfl | rfl | rfl | rfl | rfl | rfl | rfl | rfl | rfl | rfl | rfl | rfl | rfl | rfl | rfl | rfl | rfl | rfl | rfl <;> omega
theorem CbOk.sum {M : Mx} {l : List Int} {c : Nat} (h : CbOk M l c) (i : Nat) {k : Nat} (hk : k ≤ 3) : -27000000000 ≤ sumZ (fun t => vr l t * eM M t i) k ∧ sumZ (fun t => vr l t * eM M t i) k ≤ 27000000000 := by
  have := sumZ_bd (f := fun t => vr l t * eM M t i) (B := 9000000000) (fun t => h.term t i) k
  omega
theorem cb_all (M : Mx) (l : List Int) (c : Nat) : cbTo M l c M.length 0 = (List.range c).map (cmb M (vr l)) := by
  unfold cbTo cmb
  simp
end Go.Proofs.YtcklioolpicmcaaGreatDoor
namespace Go.Proofs.YtcklioolpicmcaaGreatDoor
open Hnf
theorem eM_row {M : Mx} {i : Nat} (h : M.length ≤ i) (j : Nat) : eM M i j = 0 := by
  unfold eM
  have : M.getD i [] = [] := by simp [List.getD, List.getElem?_eq_none h]
  rw [this]; simp
theorem eM_col {M : Mx} {c i j : Nat} (hM : Rect c M) (h : c ≤ j) : eM M i j = 0 := by
  by_cases hi : i < M.length
  · unfold eM
    rw [getD_get hi]
    have := hM _ (List.getElem_mem hi)
    simp [List.getD, List.getElem?_eq_none (show M[i].length ≤ j by omega)]
  · exact eM_row (by omega) j
theorem cmb_T3 {M : Mx} (h : M.length ≤ 3) (y : V) (j : Nat) : cmb M y j = T3 (eM M) y j := by
  unfold cmb T3
  rcases (show M.length = 0 ∨ M.length = 1 ∨ M.length = 2 ∨ M.length = 3 by omega) with e | e | e | e
  · rw [e, eM_row (i := 0) (by omega), eM_row (i := 1) (by omega), eM_row (i := 2) (by omega)]; simp [sumZ]
  · rw [e, eM_row (i := 1) (by omega), eM_row (i := 2) (by omega)]; simp [sumZ]
  · rw [e, eM_row (i := 2) (by omega)]; simp [sumZ]
  · rw [e]; simp [sumZ]
end Go.Proofs.YtcklioolpicmcaaGreatDoor
namespace Go.Proofs.YtcklioolpicmcaaGreatDoor
open Go.RowKit Go.Sort
set_option maxRecDepth 100000 in
set_option maxHeartbeats 2000000 in
theorem Combine08_any {w : World} {vm vl : Value} {M : Mx} {l : List Int} {c : Nat} (hM : MatR w vm M) (hl : RowR w vl l) (h : CbOk M l c) :
    Calls Tryz.prog 17 #[vm, vl, .int .i64 c] w fun e w' => ∃ v, e = .returned v ∧ RowV w.heap.size w' v ((List.range c).map (cmb M (vr l))) ∧ Ext w w' := by
  obtain ⟨sa, gb, go, cap, vs, rfl, hcap, hvl, hS, hr⟩ := id hM
  obtain ⟨sl, bl, ol, cl, rfl, hcl, hSl⟩ := hl
  obtain ⟨i0, hi, hz0, hz1, hz2⟩ := info_parts Tryz.infoInt
  have H := Lib.hid h
  obtain ⟨N, hN⟩ : ∃ N, N = M.length := ⟨_, rfl⟩
  have hN3 : N ≤ 3 := by rw [hN]; exact h.n3
  have hc3 := h.c3
  have hll : l.length = N := by rw [hN]; exact h.len
  have HrowM := Lib.hid (fun k (hk : k < M.length) => MatR.row hS hvl hr hk)
  have Haddr := Lib.hid hS.addr
  have Hvl := Lib.hid hvl
  have HN := Lib.hid hN
  have HSl := Lib.hid hSl
  have Hll := Lib.hid hll
  rw [hll] at hcl ⊢
  rw [← hN] at hcap ⊢
  clear hM h hN hll hS hr hvl hSl
  go_enter Tryz.func17, Tryz.ntmps17
  go_wp2_with (at_make; refine wpList_make_full _ rfl _ _ 32 rfl w.heap.size 3 i0 (.int .i64 0) 1 Tryz.underlying32 hi hz0 hz1 .i64 .i64 _ _ c rfl rfl (by omega) (by omega) (by rw [hz2]; omega) (by unfold maxLen; omega) (Nat.le_refl _) ?_; intro w1 hown1 hgrow1)
  have hE1 := ext_grown hgrow1
  obtain ⟨g, hg⟩ : ∃ g, g = w.heap.size := ⟨_, rfl⟩
  have hb0 : OwnV 3 w.heap.size w1 w.heap.size c (is (List.replicate c 0)) := row_ownV (zero_row hown1) (by simp)
  rw [← hg] at hb0 ⊢
  have HO1 := Lib.hid hb0
  have hgle : w.heap.size ≤ g := by omega
  clear hown1 hgrow1 hb0 hg hi hz0 hz1 hz2
  go_wp2_with fail
  go_loopw [8] (fun kv wr => ∃ k : Nat, k ≤ N ∧ kv = .int .i64 k ∧ Hid (OwnV 3 g wr g c (is (cbTo M l c k 0))) ∧ Ext w wr) (fun kv _ => N - (intOf kv).toNat)
  case atStart => exact ⟨0, by omega, by go_num, Lib.hid (by rw [cbTo_zero]; exact HO1.out), hE1⟩
  case round =>
    obtain ⟨k, hk, rfl, hO, hE⟩ := hrel
    generalize wr = X at *
    by_cases hlt : k < N
    · have hki : (k : Int) < (N : Int) := by omega
      have hkM : k < M.length := by rw [← HN.out]; exact hlt
      obtain ⟨sr, br, or, cr, hcell, hcr, hSr⟩ := HrowM.out k hkM
      have ha := Haddr.out (by rw [Hvl.out]; omega)
      obtain rfl := ha
      have hrl : M[k].length = c := H.out.rect _ (List.getElem_mem hkM)
      rw [hrl] at hcell hcr
      have HSr := Lib.hid hSr
      have Hrl := Lib.hid hrl
      have hcX := hE.cell hcell
      clear hSr hrl
      go_wp2_with fail
      go_loopw [9] (fun jv wr => ∃ j : Nat, j ≤ c ∧ jv = .int .i64 j ∧ Hid (OwnV 3 g wr g c (is (cbTo M l c k j))) ∧ Ext w wr) (fun jv _ => c - (intOf jv).toNat)
      case atStart => exact ⟨0, by omega, by go_num, hO, hE⟩
      case round =>
        obtain ⟨j, hj, rfl, hO, hE⟩ := hrel
        generalize wr = Y at *
        replace hcX := hE.cell hcell
        by_cases hlt2 : j < c
        · have hji : (j : Int) < (c : Int) := by omega
          have c1 := hO.out.cell (j := j) (by rw [is_length, cbTo_length]; exact hlt2)
          obtain ⟨a, ha⟩ : ∃ a, a = sumZ (fun t => vr l t * eM M t j) k := ⟨_, rfl⟩
          have h1 : (is (cbTo M l c k j))[j]'(by rw [is_length, cbTo_length]; exact hlt2) = .int .i64 a := by
            have := cbTo_get M l (k := k) (j := j) hlt2
            rw [if_neg (by omega), Int.add_zero] at this
            rw [ha, ← this]; simp [is]
          rw [h1] at c1
          obtain ⟨b, hb⟩ : ∃ b, b = vr l k := ⟨_, rfl⟩
          obtain ⟨d, hd⟩ : ∃ d, d = eM M k j := ⟨_, rfl⟩
          have c2 := (HSl.out.ext hE).cell k (.int .i64 b) (by
            have hkl : k < l.length := by rw [Hll.out]; exact hlt
            rw [hb, is_get hkl]; unfold vr; rw [getD_get hkl])
          have c3 := (HSr.out.ext hE).cell j (.int .i64 d) (by
            have hjl : j < M[k].length := by rw [Hrl.out]; exact hlt2
            rw [hd, is_get hjl]; unfold eM; rw [getD_get hkM, getD_get hjl])
          obtain rfl := HSl.out.addr (by rw [is_length, Hll.out]; omega)
          obtain rfl := HSr.out.addr (by rw [is_length, Hrl.out]; omega)
          have m1 := H.out.term k j
          have m2 := H.out.sum j (k := k) (by omega)
          have Hst := Lib.hid (cbTo_step M l (c := c) (k := k) (j := j))
          rw [← ha, ← hb, ← hd] at Hst
          rw [← hb, ← hd] at m1
          rw [← ha] at m2
          have w1' : IntKind.i64.wrap (b * d) = b * d := IntWalk.i64_in _ (by omega)
          have w2' : IntKind.i64.wrap (a + b * d) = a + b * d := IntWalk.i64_in _ (by omega)
          have k1 := cell_regrown c1
          have k2 := cell_regrown c2
          have k3 := cell_regrown c3
          have k4 := cell_regrown hcX
          have q1 := c1
          clear ha hb hd h1 m1 m2
          go_wp2_with fail
          refine wp_region_quiet_tail 18 (by kernel_rfl) (by kernel_rfl) ?_
          simp only [List.take_succ_cons, List.take_zero, List.drop_succ_cons, List.drop_zero]
          repeat (go_big_quiet_step (fail))
          refine wpQuiet_nil ?_
          intro _ hw'
          obtain ⟨⟨dq, osq⟩, hw''⟩ := hw'
          subst hw''
          have hE5 := ext_regrown Y dq osq
          have d5 := hE5.cell q1
          clear k1 k2 k3 k4
          generalize grow (redrawn Y dq) osq = w5 at *
          have f5 := (hO.out.ext hE5).frozen j
          obtain ⟨hO6, hG6⟩ := (hO.out.ext hE5).set j (.int .i64 (a + b * d))
          rw [← is_set, Hst.out] at hO6
          have HO6 := Lib.hid hO6
          have hE6 := Lib.hid (ext_trans_grown (hE.trans hE5) hG6 hgle)
          clear hO6 hG6 hE5
          go_wp2_with fail
          go_roundw
          case rel => exact ⟨j + 1, by omega, by go_num, HO6, hE6.out⟩
          case measure => simp [intOf] <;> omega
        · have hje : j = c := by omega
          have hji : ¬ (j : Int) < (c : Int) := by omega
          have HO7 := Lib.hid (show OwnV 3 g Y g c (is (cbTo M l c (k + 1) 0)) by have h2 := hO.out; rw [hje, cbTo_next] at h2; exact h2)
          clear hje
          go_wp2_with fail
          go_roundw
          case rel => exact ⟨k + 1, by omega, by go_num, HO7, hE⟩
          case measure => simp [intOf] <;> omega
    · have hke : k = N := by omega
      have hki : ¬ (k : Int) < (N : Int) := by omega
      have Hres := Lib.hid (show RowV w.heap.size X (.slice (some ⟨g, 0, none⟩) c c) ((List.range c).map (cmb M (vr l))) by
        have h2 := hO.out
        rw [hke, HN.out, cb_all] at h2
        have h3 := h2.mono hgle
        unfold OwnV at h3
        unfold RowV
        simpa using h3)
      clear hke
      go_wp2_with fail
      go_ret
      exact ⟨_, rfl, Hres.out, hE⟩
end Go.Proofs.YtcklioolpicmcaaGreatDoor
namespace Go.Proofs.YtcklioolpicmcaaGreatDoor
open Go.RowKit Go.Sort
def lastD (M : Mx) (n c j : Nat) : Nat := if j = 0 then 1 else dvA M n c (j - 1)
set_option maxRecDepth 100000 in
set_option maxHeartbeats 4000000 in
theorem Last08_any {w : World} {v : Value} {M : Mx} {n c B : Nat} (hM : MatR w v M) (hD : DvM M n c B) :
    Calls Tryz.prog 53 #[v] w fun e w' => ∃ j, DvJ M n c j ∧ e = .returned (.int .i64 (lastD M n c j)) ∧ Ext w w' := by
  have hdv := Lib.hid (Divisors08_any hM hD)
  obtain ⟨sa, gb, go, cap, vs, rfl, _, _, _, _⟩ := hM
  have hn4 := hD.n4
  clear hD
  go_enter Tryz.func53, Tryz.ntmps53
  go_wp2_with fail
  refine hdv.out.mono ?_
  rintro e w1 ⟨u, rfl, ⟨J, hu, hJ⟩, hE1⟩
  obtain ⟨sl, gl, ol, cl, rfl, hcl, hSl⟩ := hu.row
  rw [dvl_length] at hcl ⊢
  by_cases h0 : J = 0
  · subst h0
    have HJ := Lib.hid hJ
    clear hu hJ hSl hdv
    go_wp2_with fail
    go_ret
    exact ⟨0, HJ.out, rfl, hE1⟩
  · obtain ⟨t, rfl⟩ : ∃ t, J = t + 1 := ⟨J - 1, by omega⟩
    have htB : t + 1 ≤ 4 := Nat.le_trans hJ.1 hn4
    have hget : (is (dvl M n c (t + 1)))[t]? = some (.int .i64 (dvA M n c t : Int)) := by
      rw [is_get (by rw [dvl_length]; omega)]; simp [dvl]
    have c1 := hSl.cell t _ hget
    obtain rfl := hSl.addr (by rw [is_length, dvl_length]; omega)
    have hres : (dvA M n c t : Int) = (lastD M n c (t + 1) : Int) := by unfold lastD; rw [if_neg (by omega)]; rfl
    obtain ⟨d, hd⟩ : ∃ d : Int, d = (dvA M n c t : Int) := ⟨_, rfl⟩
    rw [← hd] at c1 hres
    have Hres := Lib.hid hres
    have HJ := Lib.hid hJ
    have ht0 : ¬ ((t + 1 : Nat) : Int) = 0 := by omega
    have ht0b : (((t + 1 : Nat) : Int) == 0) = false := beq_eq_false_iff_ne.2 ht0
    have htI : (t : Int) < ((t + 1 : Nat) : Int) := by omega
    have ht1 : ((t + 1 : Nat) : Int) - 1 = (t : Int) := by omega
    clear hu hJ hSl hdv hget hres hd h0
    go_wp2_with fail
    go_ret
    exact ⟨t + 1, HJ.out, by rw [← Hres.out]; rfl, hE1⟩
end Go.Proofs.YtcklioolpicmcaaGreatDoor
namespace Go.Proofs.YtcklioolpicmcaaGreatDoor
def InL (A : FM) (b : Nat → Int) : Prop := ∃ y : Nat → Int, ∀ k, b k = y 0 * A 0 k + y 1 * A 1 k + y 2 * A 2 k
def appF (A : FM) (b : Nat → Int) : FM := fun i k => if i = 3 then b k else A i k
structure TrF (A B : FM) (T : (Nat → Int) → Nat → Int) : Prop where
  inl : ∀ b, InL A b ↔ InL B (T b)
  eqv : ∀ b, Eqv (appF A b) (appF B (T b))
  mul : ∀ b (q : Int), T (fun k => q * b k) = fun k => q * T b k
  far : ∀ b : Nat → Int, (∀ k, 3 ≤ k → b k = 0) → ∀ k, 3 ≤ k → T b k = 0
theorem TrF.refl (A : FM) : TrF A A fun b => b := ⟨fun _ => Iff.rfl, fun _ => Eqv.refl _, fun _ _ => rfl, fun _ h => h⟩
theorem TrF.trans {A B C : FM} {T U : (Nat → Int) → Nat → Int} (h : TrF A B T) (g : TrF B C U) : TrF A C fun b => U (T b) :=
  ⟨fun b => (h.inl b).trans (g.inl _), fun b => (h.eqv b).trans (g.eqv _), fun b q => by rw [h.mul, g.mul], fun b hb => g.far _ (h.far b hb)⟩
theorem tr_shear {t : Nat} {f : Nat → Int} {A B : FM} (ht : t < 3) (h0 : f t = 0) (hf : f 3 = 0) (h : ∀ i k, B i k = A i k - f i * A t k) : TrF A B fun b => b := by
  refine ⟨fun b => ?_, fun b => ?_, fun _ _ => rfl, fun _ h => h⟩
  · constructor
    · rintro ⟨y, hy⟩
      refine ⟨fun i => y i + if i = t then y 0 * f 0 + y 1 * f 1 + y 2 * f 2 else 0, fun k => ?_⟩
      rw [hy k]
      simp only [h]
      rcases (show t = 0 ∨ t = 1 ∨ t = 2 by omega) with rfl | rfl | rfl <;> simp only [h0] <;> grind
    · rintro ⟨y, hy⟩
      refine ⟨fun i => y i - if i = t then y 0 * f 0 + y 1 * f 1 + y 2 * f 2 else 0, fun k => ?_⟩
      rw [hy k]
      simp only [h]
      rcases (show t = 0 ∨ t = 1 ∨ t = 2 by omega) with rfl | rfl | rfl <;> simp only [h0] <;> grind
  · refine eqv_shear (t := t) (f := f) h0 fun i k => ?_
    unfold appF
    rw [if_neg (by omega : ¬ t = 3)]
    by_cases hi : i = 3
    · rw [if_pos hi, if_pos hi, hi, hf]; simp
    · rw [if_neg hi, if_neg hi, h]
theorem tr_cshear {t : Nat} {g : Nat → Int} {A B : FM} (h0 : g t = 0) (hg : ∀ k, 3 ≤ k → g k = 0) (h : ∀ i k, B i k = A i k - g k * A i t) : TrF A B fun b k => b k - g k * b t := by
  refine ⟨fun b => ?_, fun b => ?_, fun b q => ?_, fun b hb k hk => ?_⟩
  · constructor
    · rintro ⟨y, hy⟩
      refine ⟨y, fun k => ?_⟩
      simp only [h, hy k, hy t]
      grind
    · rintro ⟨y, hy⟩
      refine ⟨y, fun k => ?_⟩
      have h1 := hy k
      have h2 := hy t
      simp only [h, h0] at h1 h2
      have h3 : b k = (b k - g k * b t) + g k * (b t - 0 * b t) := by grind
      rw [h3, h1, h2]
      grind
  · refine eqv_cshear (t := t) (g := g) h0 fun i k => ?_
    unfold appF
    by_cases hi : i = 3
    · rw [if_pos hi, if_pos hi, if_pos hi]
    · rw [if_neg hi, if_neg hi, if_neg hi, h]
  · funext k; simp only; grind
  · rw [hb k hk, hg k hk]; simp
theorem tr_neg {e : Nat → Int} {A B : FM} (he : ∀ i, e i * e i = 1) (h3 : e 3 = 1) (h : ∀ i k, B i k = e i * A i k) : TrF A B fun b => b := by
  refine ⟨fun b => ?_, fun b => ?_, fun _ _ => rfl, fun _ h => h⟩
  · have h2 : ∀ i k, A i k = e i * B i k := fun i k => by rw [h, ← Int.mul_assoc, he, Int.one_mul]
    constructor
    · rintro ⟨y, hy⟩
      refine ⟨fun i => y i * e i, fun k => ?_⟩
      rw [hy k, h2 0 k, h2 1 k, h2 2 k]; grind
    · rintro ⟨y, hy⟩
      refine ⟨fun i => y i * e i, fun k => ?_⟩
      rw [hy k, h 0 k, h 1 k, h 2 k]; grind
  · refine eqv_neg (e := e) he fun i k => ?_
    unfold appF
    by_cases hi : i = 3
    · rw [if_pos hi, if_pos hi, hi, h3, Int.one_mul]
    · rw [if_neg hi, if_neg hi, h]
theorem sx3 {t i x : Nat} (ht : t < 3) (hi : i < 3) (hx : 3 ≤ x) : sx t i x = x := by unfold sx; rw [if_neg (by omega), if_neg (by omega)]
theorem tr_perm {t i j : Nat} {u : Nat} {A B : FM} (ht : t < 3) (hi : i < 3) (hu : u < 3) (hj : j < 3) (h : ∀ x y, B x y = A (sx t i x) (sx u j y)) : TrF A B fun b y => b (sx u j y) := by
  have perm : ∀ (y : Nat → Int) (v : Nat → Int), y 0 * v 0 + y 1 * v 1 + y 2 * v 2 = y (sx t i 0) * v (sx t i 0) + y (sx t i 1) * v (sx t i 1) + y (sx t i 2) * v (sx t i 2) := fun y v => by
    rcases (show t = 0 ∨ t = 1 ∨ t = 2 by omega) with rfl | rfl | rfl <;> rcases (show i = 0 ∨ i = 1 ∨ i = 2 by omega) with rfl | rfl | rfl <;> simp [sx] <;> omega
  refine ⟨fun b => ?_, fun b => ?_, fun b q => rfl, fun b hb k hk => ?_⟩
  · constructor
    · rintro ⟨y, hy⟩
      refine ⟨fun x => y (sx t i x), fun k => ?_⟩
      simp only [h]
      rw [hy (sx u j k)]
      exact perm y fun x => A x (sx u j k)
    · rintro ⟨y, hy⟩
      refine ⟨fun x => y (sx t i x), fun k => ?_⟩
      have h1 := hy (sx u j k)
      simp only [h, sx_inv] at h1
      rw [h1, perm y fun x => A (sx t i x) k]
      simp only [sx_inv]
  · refine eqv_perm (σ := sx t i) (τ := sx u j) (sx_inv t i) (sx_inv u j) fun x y => ?_
    unfold appF
    by_cases hx : x = 3
    · rw [if_pos hx, hx, sx3 ht hi (Nat.le_refl 3), if_pos rfl]
    · have : sx t i x ≠ 3 := fun e => hx (by have := sx_inv t i x; rw [e, sx3 ht hi (Nat.le_refl 3)] at this; omega)
      rw [if_neg hx, if_neg this, h]
  · rw [sx3 hu hj hk]; exact hb k hk
theorem tr_clear {n c t : Nat} {s : Dg} (h : ShD n c s) (hn : n ≤ 3) (hc : c ≤ 3) (ht : t < n) (htc : t < c) : ∃ T, TrF (eM s.a) (eM (clearD n c t s).a) T := by
  obtain ⟨_, h2, _, _⟩ := clear_parts h ht htc
  have e1 : TrF (eM s.a) (fun i k => if t < i then eM s.a i k - qR s t i * eM s.a t k else eM s.a i k) fun b => b := by
    refine tr_shear (t := t) (f := fun i => if t < i then qR s t i else 0) (by omega) (if_neg (by omega)) ?_ fun i k => ?_
    · rw [if_pos (by omega)]
      unfold qR
      rw [el_row (by have := h.la; omega), fdiv0]
    · split
      · rfl
      · simp
  refine ⟨_, e1.trans (tr_cshear (t := t) (g := fun k => if t < k then qC s t k else 0) (if_neg (by omega)) (fun k hk => ?_) fun i k => ?_)⟩
  · rw [if_pos (by omega)]
    unfold qC
    rw [el_col h.ra (by omega), fdiv0]
  · rw [h2]
    by_cases hk : t < k
    · rw [if_pos hk, if_pos hk]
    · rw [if_neg hk, if_neg hk]; simp
theorem tr_add {n c t i : Nat} {s : Dg} (h : ShD n c s) (hn : n ≤ 3) (ht : t < n) (hi : i < n) (hne : t ≠ i) : TrF (eM s.a) (eM (addD t i s).a) fun b => b := by
  obtain ⟨_, h2, _, _⟩ := add_parts h ht hi
  refine tr_shear (t := i) (f := fun j => if j = t then -1 else 0) (by omega) (if_neg (Ne.symm hne)) (if_neg (by omega)) fun j k => ?_
  rw [h2]
  split
  · rename_i e; rw [e]; omega
  · simp
theorem tr_pos {n c t : Nat} {s : Dg} (h : ShD n c s) (hn : n ≤ 3) (ht : t < n) : TrF (eM s.a) (eM (posD t s).a) fun b => b := by
  obtain ⟨_, h2, _, _⟩ := pos_parts h ht
  refine tr_neg (e := fun j => if j = t ∧ eM s.a t t < 0 then -1 else 1) (fun i => by split <;> rfl) (if_neg (by omega)) fun j k => ?_
  rw [h2]
  split
  · rename_i e; rw [e.1]; omega
  · simp
theorem runD_tr {E n c : Nat} {A : FM} (hn : n ≤ 3) (hc : c ≤ 3) : ∀ (f t : Nat) (s : Dg) {rank : Nat} {fin : Dg}, runD E n c f t s = some (rank, fin) → InvD n c t s → (∃ T, TrF A (eM s.a) T) → ∃ T, TrF A (eM fin.a) T
  | 0, _, _, _, _, h, _, _ => by cases h
  | f + 1, t, s, rank, fin, h, hv, he => by
    rw [runD] at h
    split at h
    · have hrn := stepD_rnd (t := t) hv.sh
      generalize hst : stepD n c t s = st at hrn h
      rcases hrn with h0 | ⟨i, k, hp, hu⟩ | ⟨i, k, q, y, hp, h1, h2, hj, hj1, hy, hy1, hbad⟩ | ⟨i, k, hp, h1, h2, h3⟩
      · injection h with h; injection h with h4 h5
        subst h5
        exact he
      all_goals
        have i0 := hp.i0
        have i1 := hp.i1
        have k0 := hp.k0
        have k1 := hp.k1
        have ht : t < n := by omega
        have htc' : t < c := by omega
        obtain ⟨hv1, _⟩ := hv.swap i0 i1 k0 k1
        obtain ⟨T0, hT0⟩ := he
        have hT1 := hT0.trans (tr_perm (by omega) (by omega) (by omega) (by omega) (swap_parts hv.sh ht i1 htc' k1).2.1)
        have hne : eM (swapD t i k s).a t t ≠ 0 := by rw [hp.piv hv.sh]; exact hp.ne
        obtain ⟨hv2, _⟩ := hv1.clear ht htc'
        obtain ⟨T2, hT2⟩ := tr_clear hv1.sh hn hc ht htc'
        have hT3 := hT1.trans hT2
      · exact runD_tr hn hc f t _ h hv2 ⟨_, hT3⟩
      · obtain ⟨hv3, _⟩ := hv2.add ht hj hj1
        exact runD_tr hn hc f t _ h hv3 ⟨_, hT3.trans (tr_add hv2.sh hn ht hj1 (by omega))⟩
      · have z1 := zcol hv1.sh ht htc' hne h1
        have z2 := zrow hv1.sh ht htc' hne h2
        obtain ⟨hv3, _⟩ := hv2.posn ht z1 z2
        exact runD_tr hn hc f (t + 1) _ h hv3 ⟨_, hT3.trans (tr_pos hv2.sh hn ht)⟩
    · cases h
theorem SmF.tr {M : Mx} (h : SmF M) : ∃ rank fin T, FinD M.length (ncols M) (eM M) rank fin ∧ TrF (eM M) (eM fin.a) T := by
  obtain ⟨f, rank, fin, hr, hf, _⟩ := h.run
  obtain ⟨T, hT⟩ := runD_tr (A := eM M) h.n3 h.c3 f 0 _ hr (start_inv h.rect) ⟨_, TrF.refl _⟩
  exact ⟨rank, fin, T, hf, hT⟩
theorem Dia.inl {A : FM} {d : Nat → Int} (h : Dia A d) {b : Nat → Int} (hb : ∀ k, 3 ≤ k → b k = 0) : InL A b ↔ ∀ k, k < 3 → d k ∣ b k := by
  constructor
  · rintro ⟨y, hy⟩ k hk
    rw [hy k, h.el, h.el, h.el]
    rcases (show k = 0 ∨ k = 1 ∨ k = 2 by omega) with rfl | rfl | rfl <;> simp <;> exact Int.dvd_mul_left _ _
  · intro hd
    obtain ⟨y0, h0⟩ := hd 0 (by omega)
    obtain ⟨y1, h1⟩ := hd 1 (by omega)
    obtain ⟨y2, h2⟩ := hd 2 (by omega)
    refine ⟨fun i => if i = 0 then y0 else if i = 1 then y1 else y2, fun k => ?_⟩
    rw [h.el, h.el, h.el]
    by_cases hk : 3 ≤ k
    · rw [hb k hk, if_neg (by omega), if_neg (by omega), if_neg (by omega)]; simp
    · rcases (show k = 0 ∨ k = 1 ∨ k = 2 by omega) with rfl | rfl | rfl
      · simp [h0, Int.mul_comm]
      · simp [h1, Int.mul_comm]
      · simp [h2, Int.mul_comm]
theorem inl_eqv {A : FM} (h3 : ∀ k, A 3 k = 0) {b : Nat → Int} (hb : InL A b) : Eqv A (appF A b) := by
  obtain ⟨y, hy⟩ := hb
  have s0 : Eqv A (appF A fun k => y 0 * A 0 k) := eqv_shear (t := 0) (f := fun i => if i = 3 then -(y 0) else 0) rfl fun i k => by
    unfold appF
    by_cases hi : i = 3
    · rw [if_pos hi, if_pos hi, hi, h3]; grind
    · rw [if_neg hi, if_neg hi]; simp
  have s1 : Eqv (appF A fun k => y 0 * A 0 k) (appF A fun k => y 0 * A 0 k + y 1 * A 1 k) := eqv_shear (t := 1) (f := fun i => if i = 3 then -(y 1) else 0) rfl fun i k => by
    unfold appF
    rw [if_neg (by omega : ¬ 1 = 3)]
    by_cases hi : i = 3
    · rw [if_pos hi, if_pos hi, if_pos hi]; grind
    · rw [if_neg hi, if_neg hi, if_neg hi]; simp
  have s2 : Eqv (appF A fun k => y 0 * A 0 k + y 1 * A 1 k) (appF A fun k => y 0 * A 0 k + y 1 * A 1 k + y 2 * A 2 k) := eqv_shear (t := 2) (f := fun i => if i = 3 then -(y 2) else 0) rfl fun i k => by
    unfold appF
    rw [if_neg (by omega : ¬ 2 = 3)]
    by_cases hi : i = 3
    · rw [if_pos hi, if_pos hi, if_pos hi]; grind
    · rw [if_neg hi, if_neg hi, if_neg hi]; simp
  have e : b = fun k => y 0 * A 0 k + y 1 * A 1 k + y 2 * A 2 k := funext hy
  rw [e]
  exact (s0.trans s1).trans s2
theorem Dia.eqv_inl {A : FM} {d : Nat → Int} (h : Dia A d) {b : Nat → Int} (he : Eqv A (appF A b)) : ∀ k, k < 3 → d k ∣ b k := by
  have r3 : ∀ k, appF A b 3 k = b k := fun k => if_pos rfl
  have r0 : ∀ i k, i ≠ 3 → appF A b i k = if i = k then d i else 0 := fun i k hi => by unfold appF; rw [if_neg hi, h.el]
  have x1 : ∀ k, d 0 ∣ b k := fun k => by
    have := (he.e1 (d 0)).1 ((h.x1 _).2 (Int.dvd_refl _)) 3 k
    rwa [r3] at this
  have x2 : ∀ k, k ≠ 0 → d 0 * d 1 ∣ d 0 * b k := fun k hk => by
    have := (he.e2 (d 0 * d 1)).1 ((h.x2 _).2 (Int.dvd_refl _)) 0 3 0 k
    unfold m2 at this
    rw [r3, r3, r0 0 0 (by omega), r0 0 k (by omega), if_pos rfl, if_neg (Ne.symm hk)] at this
    simpa using this
  have x3 : ∀ k, k ≠ 0 → k ≠ 1 → d 0 * (d 1 * d 2) ∣ d 0 * (d 1 * b k) := fun k hk hk1 => by
    have := (he.e3 (d 0 * (d 1 * d 2))).1 ((h.x3 _).2 (Int.dvd_refl _)) 0 1 3 0 1 k
    unfold m3 m2 at this
    rw [r3, r3, r3, r0 0 0 (by omega), r0 0 1 (by omega), r0 0 k (by omega), r0 1 0 (by omega), r0 1 1 (by omega), r0 1 k (by omega)] at this
    simpa [Ne.symm hk, Ne.symm hk1] using this
  have z : ∀ i j, i ≤ j → d i = 0 → d j = 0 := fun i j hij h0 => by have := h.dv i j hij; rw [h0] at this; exact Int.zero_dvd.1 this
  intro k hk
  rcases (show k = 0 ∨ k = 1 ∨ k = 2 by omega) with rfl | rfl | rfl
  · exact x1 0
  · by_cases c0 : d 0 = 0
    · have := x1 1; rw [c0] at this; rw [z 0 1 (by omega) c0]; exact this
    · exact Int.dvd_of_mul_dvd_mul_left c0 (x2 1 (by omega))
  · by_cases c0 : d 0 = 0
    · have := x1 2; rw [c0] at this; rw [z 0 2 (by omega) c0]; exact this
    · by_cases c1 : d 1 = 0
      · have := x2 2 (by omega)
        rw [c1, Int.mul_zero] at this
        rcases Int.mul_eq_zero.1 (Int.zero_dvd.1 this) with h' | h'
        · exact absurd h' c0
        · rw [h']; exact Int.dvd_zero _
      · exact Int.dvd_of_mul_dvd_mul_left c1 (Int.dvd_of_mul_dvd_mul_left c0 (x3 2 (by omega) (by omega)))
theorem SmF.inl {M : Mx} (h : SmF M) {b : Nat → Int} (hb : ∀ k, 3 ≤ k → b k = 0) : InL (eM M) b ↔ Eqv (eM M) (appF (eM M) b) := by
  obtain ⟨rank, fin, T, hf, hT⟩ := h.tr
  obtain ⟨hd, _, _⟩ := hf.dia h.n3
  constructor
  · exact inl_eqv fun k => el_row (by have := h.n3; omega) k
  · intro he
    rw [hT.inl b, hd.inl (hT.far b hb)]
    exact hd.eqv_inl ((hf.eqv.symm.trans he).trans (hT.eqv b))
end Go.Proofs.YtcklioolpicmcaaGreatDoor
namespace Go.Proofs.YtcklioolpicmcaaGreatDoor
open Hnf
theorem x12 {x : Int} {A : FM} (h : X1 x A) : X2 x A := fun i j k l => by
  unfold m2; exact Int.dvd_sub (Int.dvd_mul_of_dvd_left (h i k)) (Int.dvd_mul_of_dvd_left (h i l))
theorem x23 {x : Int} {A : FM} (h : X2 x A) : X3 x A := fun i j m k l p => by
  unfold m3; exact Int.dvd_add (Int.dvd_sub (Int.dvd_mul_of_dvd_right (h _ _ _ _)) (Int.dvd_mul_of_dvd_right (h _ _ _ _))) (Int.dvd_mul_of_dvd_right (h _ _ _ _))
section
variable {M : Mx} {n c : Nat} (hl : M.length = n) (hR : Rect c M) (hn : n ≤ 4) (hc : c ≤ 4)
include hl hR hn hc
theorem dv_chain {t : Nat} (ht : t ≤ 1) : (dvA M n c t : Int) ∣ dvA M n c (t + 1) := by
  rcases (show t = 0 ∨ t = 1 by omega) with rfl | rfl
  · exact (div2 hl hR hn hc _).2 (x12 ((div1 hl hR hn hc _).1 (Int.dvd_refl _)))
  · exact (div3 hl hR hn hc _).2 (x23 ((div2 hl hR hn hc _).1 (Int.dvd_refl _)))
omit hl hR hn hc in
theorem dv_big {t : Nat} (h : n ≤ t ∨ c ≤ t) : dvA M n c t = 0 := by
  have : (0 : Int) ∣ (dvA M n c t : Int) := by
    unfold dvA
    rw [divAll_dvd]
    intro r _ s _ a b
    have h1 := selI_le n r
    have h2 := selI_le c s
    omega
  have := Int.zero_dvd.1 this
  omega
theorem dv_far {j t : Nat} (hj : DvJ M n c j) (h : j ≤ t) (ht : t ≤ 2) : dvA M n c t = 0 := by
  obtain ⟨j1, j2, j3, j4⟩ := hj
  by_cases hb : n ≤ t ∨ c ≤ t
  · exact dv_big hb
  · have h0 := j4 (by omega) (by omega)
    have up : ∀ s, s ≤ 1 → dvA M n c s = 0 → dvA M n c (s + 1) = 0 := fun s hs h => by
      have := dv_chain hl hR hn hc hs
      rw [h] at this
      have := Int.zero_dvd.1 this
      omega
    rcases (show t = j ∨ t = j + 1 ∨ t = j + 2 by omega) with rfl | rfl | rfl
    · exact h0
    · exact up j (by omega) h0
    · exact up (j + 1) (by omega) (up j (by omega) h0)
end
theorem dv_eqv {M M' : Mx} {n n' c c' : Nat} (hl : M.length = n) (hR : Rect c M) (hn : n ≤ 4) (hc : c ≤ 4) (hl' : M'.length = n') (hR' : Rect c' M') (hn' : n' ≤ 4) (hc' : c' ≤ 4) :
    Eqv (eM M) (eM M') ↔ ∀ t, t ≤ 2 → dvA M n c t = dvA M' n' c' t := by
  constructor
  · intro h t ht
    have : (dvA M n c t : Int) = dvA M' n' c' t := by
      rcases (show t = 0 ∨ t = 1 ∨ t = 2 by omega) with rfl | rfl | rfl
      · exact eq_of_dvds (Int.natCast_nonneg _) (Int.natCast_nonneg _) fun x => by rw [div1 hl hR hn hc, div1 hl' hR' hn' hc']; exact h.e1 x
      · exact eq_of_dvds (Int.natCast_nonneg _) (Int.natCast_nonneg _) fun x => by rw [div2 hl hR hn hc, div2 hl' hR' hn' hc']; exact h.e2 x
      · exact eq_of_dvds (Int.natCast_nonneg _) (Int.natCast_nonneg _) fun x => by rw [div3 hl hR hn hc, div3 hl' hR' hn' hc']; exact h.e3 x
    omega
  · intro h
    refine ⟨fun x => ?_, fun x => ?_, fun x => ?_⟩
    · rw [← div1 hl hR hn hc, ← div1 hl' hR' hn' hc', h 0 (by omega)]
    · rw [← div2 hl hR hn hc, ← div2 hl' hR' hn' hc', h 1 (by omega)]
    · rw [← div3 hl hR hn hc, ← div3 hl' hR' hn' hc', h 2 (by omega)]
theorem qf_iff {M M' : Mx} {n n' c c' j j' : Nat} (hl : M.length = n) (hR : Rect c M) (hn : n ≤ 4) (hc : c ≤ 3) (hl' : M'.length = n') (hR' : Rect c' M') (hn' : n' ≤ 4) (hc' : c' ≤ 3) (hj : DvJ M n c j) (hj' : DvJ M' n' c' j') :
    qfL M n c j = qfL M' n' c' j' ↔ Eqv (eM M) (eM M') := by
  rw [dv_eqv hl hR hn (by omega) hl' hR' hn' (by omega)]
  have f := fun t => dv_far (t := t) hl hR hn (by omega) hj
  have f' := fun t => dv_far (t := t) hl' hR' hn' (by omega) hj'
  obtain ⟨j1, j2, j3, _⟩ := id hj
  obtain ⟨k1, k2, k3, _⟩ := id hj'
  constructor
  · intro he
    have hjj : j = j' := by
      have := congrArg List.length he
      simpa using this
    subst hjj
    have hq : ∀ t, t < j → qfE M n c t = qfE M' n' c' t := fun t ht => by
      unfold qfL at he
      exact List.map_inj_left.1 he t (List.mem_range.2 ht)
    have hs : ∀ t, t < j → dvA M n c t = dvA M' n' c' t := by
      intro t
      induction t with
      | zero =>
        intro ht
        have := hq 0 ht
        unfold qfE at this
        rw [if_pos rfl, Int.tdiv_one, if_pos rfl, Int.tdiv_one] at this
        omega
      | succ t ih =>
        intro ht
        have h1 := ih (by omega)
        have := hq (t + 1) ht
        unfold qfE at this
        rw [if_neg (by omega), if_neg (by omega), Nat.add_sub_cancel, ← h1] at this
        have d1 := dv_chain hl hR hn (show c ≤ 4 by omega) (t := t) (by omega)
        have d2 := dv_chain hl' hR' hn' (show c' ≤ 4 by omega) (t := t) (by omega)
        rw [← h1] at d2
        have e1 := Int.tdiv_mul_cancel d1
        have e2 := Int.tdiv_mul_cancel d2
        rw [this, e2] at e1
        omega
    intro t ht
    rcases Nat.lt_or_ge t j with h | h
    · exact hs t h
    · rw [f t h ht, f' t h ht]
  · intro h
    have hjj : j = j' := by
      rcases Nat.lt_trichotomy j j' with a | a | a
      · have h1 := f j (Nat.le_refl _) (by omega)
        have h2 := k3 j a
        rw [h j (by omega)] at h1
        exact absurd h1 h2
      · exact a
      · have h1 := f' j' (Nat.le_refl _) (by omega)
        have h2 := j3 j' a
        rw [← h j' (by omega)] at h1
        exact absurd h1 h2
    subst hjj
    unfold qfL
    refine List.map_congr_left fun t ht => ?_
    have := List.mem_range.1 ht
    unfold qfE
    rw [h t (by omega)]
    by_cases h0 : t = 0
    · rw [if_pos h0, if_pos h0]
    · rw [if_neg h0, if_neg h0, h (t - 1) (by omega)]
theorem inl_span {M : Mx} (h : M.length ≤ 3) {b : V} : InL (eM M) b ↔ Span (latM M) b := by
  rw [span_cmb]
  constructor
  · rintro ⟨y, hy⟩
    refine ⟨y, ?_⟩
    funext k
    rw [cmb_T3 h]; exact hy k
  · rintro ⟨y, rfl⟩
    exact ⟨y, fun k => cmb_T3 h y k⟩
end Go.Proofs.YtcklioolpicmcaaGreatDoor
namespace Go.Proofs.YtcklioolpicmcaaGreatDoor
open Go.RowKit Go.Sort
section
variable {w : World} {ops : Array Oper} {rest : List Oper} {o : Oper} {a : Act} {Q : Exit → Act → World → Prop}
end
theorem RowR.one {w : World} {v : Value} {r : List Int} (h : RowR w v r) : v.oneCell' = true := by
  obtain ⟨sa, gb, go, cap, rfl, _⟩ := h; rfl
end Go.Proofs.YtcklioolpicmcaaGreatDoor
