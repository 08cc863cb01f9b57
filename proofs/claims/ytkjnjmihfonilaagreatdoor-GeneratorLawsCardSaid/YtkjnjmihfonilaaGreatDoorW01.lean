/- Part 1, beside the shared parts, of the proof of the claim: contracts and plain laws; no condition. -/
import Derived.Test.YtkjnjmihfonilaaGreatDoorV01
import Derived.Test.YtkjnjmihfonilaaGreatDoorV02
import Derived.Test.YtkjnjmihfonilaaGreatDoorV03
import Derived.Test.YtkjnjmihfonilaaGreatDoorV04
import Derived.Test.YtkjnjmihfonilaaGreatDoorV05
import Derived.Test.YtkjnjmihfonilaaGreatDoorV06
import Derived.Test.YtkjnjmihfonilaaGreatDoorV07
import Derived.Test.YtkjnjmihfonilaaGreatDoorV08
import Derived.Test.YtkjnjmihfonilaaGreatDoorV09
import Derived.Test.YtkjnjmihfonilaaGreatDoorV10
import Derived.Test.YtkjnjmihfonilaaGreatDoorV11
import Derived.Test.YtkjnjmihfonilaaGreatDoorV12
import Derived.Test.YtkjnjmihfonilaaGreatDoorV13
import Derived.Test.YtkjnjmihfonilaaGreatDoorV14
import Derived.Test.YtkjnjmihfonilaaGreatDoorV15
import Derived.Test.YtkjnjmihfonilaaGreatDoorV16
import Derived.Test.YtkjnjmihfonilaaGreatDoorV17
import Derived.Test.YtkjnjmihfonilaaGreatDoorV18
import Derived.Test.YtkjnjmihfonilaaGreatDoorV19
import Derived.Test.YtkjnjmihfonilaaGreatDoorV20
import Derived.Test.YtkjnjmihfonilaaGreatDoorV21
import Derived.Test.YtkjnjmihfonilaaGreatDoorV22
import Derived.Test.YtkjnjmihfonilaaGreatDoorV23
import Derived.Test.YtkjnjmihfonilaaGreatDoorV24
import Derived.Test.YtkjnjmihfonilaaGreatDoorV25
import Derived.Test.YtkjnjmihfonilaaGreatDoorV26
import Derived.Test.YtkjnjmihfonilaaGreatDoorV27
import Derived.Test.YtkjnjmihfonilaaGreatDoorV28
import Derived.Test.YtkjnjmihfonilaaGreatDoorV29
import Derived.Test.YtkjnjmihfonilaaGreatDoorV30
import Derived.Test.YtkjnjmihfonilaaGreatDoorV31
import Derived.Test.YtkjnjmihfonilaaGreatDoorV32
import Derived.Test.YtkjnjmihfonilaaGreatDoorV33
import Derived.RangeFuncWrites
import Derived.ControlIn
import Derived.Lib.QuietBelow
import Derived.RangeFuncBox
import Derived.RangeFuncNested
import Derived.RangeFuncLeaves
import Derived.Shelf.Abstract
import Derived.OwnWalkIn
import Derived.TacticsInMore
import Derived.LoopNIn
import Derived.LoopIn
namespace Go.Proofs.YtkjnjmihfonilaaGreatDoor
open Go.RowKit Go.Sort
theorem grown_set (w : World) (b i : Nat) (v : Value) : w.grownBy (w.setCell ⟨b, i, none⟩ v) (some b) :=
  ⟨rfl, rfl, rfl, by simp [World.setCell], fun k _ hk => Below.heap_setCell _ _ _ _ (fun e => hk (by simp [e]))⟩
end Go.Proofs.YtkjnjmihfonilaaGreatDoor
namespace Go.Proofs.YtkjnjmihfonilaaGreatDoor
open Go.RowKit Go.Sort
theorem GrX.keep {B : Nat} {w w' : World} {g cap : Nat} {F : Mx} {ad : List (Nat × Nat)} {R : Nat → Prop} (h : GrX B w (slv g F.length cap) F ad) (hC : Chg R w w') (hg : ¬ R g) (ha : ∀ i (h : i < ad.length) (h' : i < F.length), 0 < F[i].length → ¬ R ad[i].1) : GrX B w' (slv g F.length cap) F ad := by
  have hOut := hC.own hg h.outer
  refine ⟨h.len, ?_, fun j hj hj' hj0 => hC.own (ha j hj' hj hj0) (h.row j hj hj' hj0), h.dis⟩
  unfold OwnV at hOut
  rw [hdV_length _ _ h.len] at hOut
  exact hOut
section
variable {w : World} {ops : Array Oper} {rest : List Oper} {o : Oper} {a : Act} {Q : Exit → Act → World → Prop}
end
end Go.Proofs.YtkjnjmihfonilaaGreatDoor
namespace Go.Proofs.YtkjnjmihfonilaaGreatDoor
open Go.RowKit Go.Sort
theorem LrX.keep {B : Nat} {w w' : World} {g cap : Nat} {F : Mx} {ad : List (Nat × Nat)} {R : Nat → Prop} (h : LrX B w (slv g F.length cap) F ad) (hC : Chg R w w') (hg : ¬ R g) (ha : ∀ i (h : i < ad.length) (h' : i < F.length), 0 < F[i].length → ¬ R ad[i].1) : LrX B w' (slv g F.length cap) F ad := by
  have hOut := hC.own hg h.outer
  refine ⟨h.len, ?_, fun j hj hj' hj0 => hC.own (ha j hj' hj hj0) (h.row j hj hj' hj0), h.dis⟩
  unfold OwnV at hOut
  rw [hdV_length _ _ h.len] at hOut
  exact hOut
section
variable {w : World} {ops : Array Oper} {rest : List Oper} {o : Oper} {a : Act} {Q : Exit → Act → World → Prop}
end
end Go.Proofs.YtkjnjmihfonilaaGreatDoor
namespace Go.Proofs.YtkjnjmihfonilaaGreatDoor
open Hnf (V Span Ech Red)
theorem redQ_snoc (r : List Int) : ∀ (F : Mx) (x : List Int), redQ (F ++ [r]) x = redQ F x ++ [stepQ r (redX F x)]
  | [], x => rfl
  | f :: F, x => by rw [List.cons_append, redQ, redQ, redX, redQ_snoc r F]; rfl
theorem redQ_take {F : Mx} {i : Nat} (h : i < F.length) (x : List Int) : redQ (F.take (i + 1)) x = redQ (F.take i) x ++ [stepQ (F.getD i []) (redX (F.take i) x)] := by
  rw [take_snocM h, redQ_snoc, getD_get h]
def Piv (F : Mx) : Prop := ∀ i, i < F.length → (F.getD i []).getD (pv (F.getD i [])) 0 ≠ 0
theorem IsH.piv {n : Nat} {ps : List Nat} {F : Mx} (h : IsH n ps F) : Piv F := by
  intro i hi
  have e := isH_pv h
  have := h.pos i hi
  rw [e, getD_map pv F i hi 0 []] at this
  have h2 : eM F i (pv (F.getD i [])) ≠ 0 := by omega
  exact h2
end Go.Proofs.YtkjnjmihfonilaaGreatDoor
namespace Go.Proofs.YtkjnjmihfonilaaGreatDoor
open Go.RowKit Go.Sort
theorem unitM_rect (n : Nat) : Rect n (unitM n) := fun r hr => by
  obtain ⟨i, hi, rfl⟩ := List.getElem_of_mem hr
  rw [unitM_get]; simp [unitR]
end Go.Proofs.YtkjnjmihfonilaaGreatDoor
namespace Go.Proofs.YtkjnjmihfonilaaGreatDoor
open Go.RowKit Go.Sort
theorem columns_any {w : World} {v : Value} {M : Mx} (hM : MatR w v M) :
    Calls Tryz.prog 57 #[v] w fun e w' => e = .returned (.int .i64 (ncols M)) ∧ Ext w w' := by
  obtain ⟨sa, gb, go, cap, vs, rfl, hcap, hvl, hS, hr⟩ := hM
  by_cases h0 : M.length = 0
  · have hn : ncols M = 0 := by
      have : M = [] := List.eq_nil_of_length_eq_zero h0
      rw [this]; rfl
    rw [h0, hn]
    clear hS hr hvl h0 hcap hn
    go_enter Tryz.func57, Tryz.ntmps57
    go_wp2_with fail
    go_ret
    exact ⟨rfl, Ext.refl _⟩
  · have hi0 : 0 < M.length := by omega
    obtain rfl := hS.addr (by rw [hvl]; omega)
    obtain ⟨s0, b0, o0, c0, hrow0, hrc0, hS0⟩ := MatR.row hS hvl hr hi0
    have hn : M[0].length = ncols M := by unfold ncols; rw [getD_get hi0]
    rw [hn, Nat.add_zero] at hrow0
    have hb : ((M.length : Int) == 0) = false := beq_eq_false_iff_ne.2 (by omega)
    have hb2 : ¬ (M.length : Int) = 0 := by omega
    clear hS hr hvl hn hS0 hrc0
    go_enter Tryz.func57, Tryz.ntmps57
    go_wp2_with fail
    go_ret
    exact ⟨rfl, Ext.refl _⟩
end Go.Proofs.YtkjnjmihfonilaaGreatDoor
namespace Go.Proofs.YtkjnjmihfonilaaGreatDoor
open Go.RowKit Go.Sort
open Hnf (V Span)
theorem rows_indep {n : Nat} {ps : List Nat} {F : Mx} (h : IsH n ps F) {y : V} (hz : ∀ j, cmb F y j = 0) : ∀ m i, i ≤ m → i < F.length → y i = 0 := by
  intro m
  induction m with
  | zero =>
    intro i hi hl
    obtain rfl : i = 0 := by omega
    have h1 := hz (ps.getD 0 0)
    unfold cmb at h1
    rw [sumZ_one (k := 0) hl (fun k hk h0 => by rw [h.left k hk _ (h.inc 0 k (by omega) hk)]; simp)] at h1
    have h2 := h.pos 0 hl
    rcases Int.mul_eq_zero.1 h1 with h3 | h3
    · exact h3
    · omega
  | succ m ih =>
    intro i hi hl
    rcases Nat.lt_or_ge i (m + 1) with h0 | h0
    · exact ih i (by omega) hl
    have h1 := hz (ps.getD i 0)
    unfold cmb at h1
    rw [sumZ_one (k := i) hl (fun k hk h0 => by
      rcases Nat.lt_or_ge k i with h4 | h4
      · rw [ih k (by omega) hk]; simp
      · rw [h.left k hk _ (h.inc i k (by omega) hk)]; simp)] at h1
    have h2 := h.pos i hl
    rcases Int.mul_eq_zero.1 h1 with h3 | h3
    · exact h3
    · omega
theorem sumZ_two {f : Nat → Int} {a b : Nat} {n : Nat} (ha : a < n) (hb : b < n) (hab : a ≠ b) (h : ∀ i, i < n → i ≠ a → i ≠ b → f i = 0) : sumZ f n = f a + f b := by
  have e : sumZ f n = sumZ (fun i => (if i = a then f a else 0) - (if i = b then - f b else 0)) n := sumZ_congr fun i hi => by
    by_cases h1 : i = a
    · subst h1; rw [if_pos rfl, if_neg hab]; simp
    · by_cases h2 : i = b
      · subst h2; rw [if_neg h1, if_pos rfl]; simp
      · rw [if_neg h1, if_neg h2, h i hi h1 h2]; simp
  rw [e, sumZ_sub, sumZ_one (k := a) ha (fun i _ hi => if_neg hi), sumZ_one (k := b) hb (fun i _ hi => if_neg hi)]
  simp
def upV (F : Mx) (c : Nat) : V := fun k => if k = c then 1 else if k < c then - eM F k c else 0
theorem up_dot {r : Nat} {qs : List Nat} {F : Mx} {c : Nat} (hF : IsH r qs F) (hc : c < r) (hl : c ≤ F.length) (h1 : ∀ i, i < c → qs.getD i 0 = i ∧ eM F i i = 1) :
    ∃ d : Int, 0 ≤ d ∧ (d ≠ 0 → c < F.length ∧ qs.getD c 0 = c ∧ eM F c c = d) ∧ ∀ i, i < F.length → ∃ t, dotV r (vr (F.getD i [])) (upV F c) = t * d := by
  have hlow : ∀ i, i < c → dotV r (vr (F.getD i [])) (upV F c) = 0 := fun i hi => by
    have hz : ∀ k, k < r → k ≠ i → k ≠ c → vr (F.getD i []) k * upV F c k = 0 := fun k hk h2 h3 => by
      by_cases h4 : k < c
      · have h5 : eM F i k = 0 := by
          rcases Nat.lt_or_ge k i with h6 | h6
          · exact hF.left i (by omega) k (by rw [(h1 i hi).1]; exact h6)
          · have h7 := hF.red i k (by omega) (by omega)
            rw [(h1 k h4).1, (h1 k h4).2] at h7
            omega
        have h5' : vr (F.getD i []) k = 0 := h5
        rw [h5']; simp
      · unfold upV; rw [if_neg h3, if_neg h4]; simp
    unfold dotV
    rw [sumZ_two (a := i) (b := c) (by omega) hc (by omega) hz]
    have e1 : vr (F.getD i []) i = 1 := (h1 i hi).2
    have e2 : vr (F.getD i []) c = eM F i c := rfl
    rw [e1, e2]
    unfold upV
    rw [if_pos rfl, if_neg (by omega), if_pos hi]
    omega
  have hhigh : ∀ i, i < F.length → (∀ k, k ≤ c → eM F i k = 0) → dotV r (vr (F.getD i [])) (upV F c) = 0 := fun i hi hz => sumZ_zero fun k hk => by
    by_cases h4 : k ≤ c
    · have h5 : vr (F.getD i []) k = 0 := hz k h4
      rw [h5]; simp
    · unfold upV; rw [if_neg (by omega), if_neg (by omega)]; simp
  have hpge : ∀ i, i < F.length → c ≤ i → c ≤ qs.getD i 0 := fun i hi hci => by
    rcases Nat.eq_zero_or_pos c with h | h
    · omega
    · have := hF.inc (c - 1) i (by omega) hi
      rw [(h1 (c - 1) (by omega)).1] at this
      omega
  by_cases hcp : c < F.length ∧ qs.getD c 0 = c
  · have hp := hF.pos c hcp.1
    rw [hcp.2] at hp
    refine ⟨eM F c c, by omega, fun _ => ⟨hcp.1, hcp.2, rfl⟩, fun i hi => ?_⟩
    rcases Nat.lt_trichotomy i c with h | rfl | h
    · exact ⟨0, by rw [hlow i h]; simp⟩
    · refine ⟨1, ?_⟩
      unfold dotV
      rw [sumZ_one (k := i) hc (fun k hk h2 => by
        rcases Nat.lt_or_ge k i with h4 | h4
        · have h5 : vr (F.getD i []) k = 0 := hF.left i hi k (by rw [hcp.2]; exact h4)
          rw [h5]; simp
        · unfold upV; rw [if_neg h2, if_neg (by omega)]; simp)]
      unfold upV
      rw [if_pos rfl]
      show eM F i i * 1 = 1 * eM F i i
      omega
    · exact ⟨0, by
        rw [hhigh i hi (fun k hk => hF.left i hi k (by have := hF.inc c i h hi; rw [hcp.2] at this; omega))]; simp⟩
  · refine ⟨0, Int.le_refl _, fun h => absurd rfl h, fun i hi => ⟨0, ?_⟩⟩
    rcases Nat.lt_or_ge i c with h | h
    · rw [hlow i h]; simp
    · rw [hhigh i hi (fun k hk => hF.left i hi k (by
        have h2 := hpge i hi h
        rcases Nat.lt_or_ge c i with h3 | h3
        · have h4 := hF.inc c i h3 hi
          have h5 := hpge c (by omega) (Nat.le_refl _)
          omega
        · have : i = c := by omega
          subst this
          have : qs.getD i 0 ≠ i := fun e => hcp ⟨hi, e⟩
          omega))]
      simp
theorem onto_col {n : Nat} {C M F : Mx} {ps qs : List Nat} (hM : KerL n (latM C) M) (hI : IsH n ps M) (hF : IsH M.length qs F) (h2 : ∀ v ∈ latM (trM n M), Span (latM F) v) :
    ∀ c, c ≤ M.length → c ≤ F.length ∧ ∀ i, i < c → qs.getD i 0 = i ∧ eM F i i = 1
  | 0, _ => ⟨Nat.zero_le _, fun i h => by omega⟩
  | c + 1, hc => by
    obtain ⟨hl, h1⟩ := onto_col hM hI hF h2 c (by omega)
    obtain ⟨d, hd0, hd, ht⟩ := up_dot hF (by omega) hl h1
    have hsp : ∀ v, Span (latM F) v → ∃ t, dotV M.length v (upV F c) = t * d := fun v hv => by
      induction hv with
      | zero => exact ⟨0, by rw [dot_zero]; simp⟩
      | @step v r q _ hr ih =>
        obtain ⟨t, e⟩ := ih
        obtain ⟨l, hlm, rfl⟩ := List.mem_map.1 hr
        obtain ⟨i, hi, rfl⟩ := List.getElem_of_mem hlm
        obtain ⟨t2, e2⟩ := ht i hi
        rw [getD_get hi] at e2
        exact ⟨t - q * t2, by rw [dot_sub, e, e2, Int.sub_mul, Int.mul_assoc]⟩
    have hcol : ∀ j, ∃ t, cmb M (upV F c) j = t * d ∧ (n ≤ j → t = 0) := fun j => by
      by_cases hj : j < n
      · obtain ⟨t, e⟩ := hsp _ (h2 (vr ((trM n M)[j]'(by simpa using hj))) (List.mem_map_of_mem (List.getElem_mem _)))
        refine ⟨t, ?_, fun h => by omega⟩
        rw [← e]
        refine sumZ_congr fun k hk => ?_
        have e3 := trM_en M hj hk
        have e4 : vr ((trM n M)[j]'(by simpa using hj)) k = eM (trM n M) j k := by
          unfold eM
          rw [getD_get (show j < (trM n M).length by simpa using hj) []]; rfl
        rw [e4, e3]
        have e5 : eM M k j = vr M[k] j := by unfold eM; rw [getD_get hk []]; rfl
        rw [e5]
        exact Int.mul_comm _ _
      · refine ⟨0, ?_, fun _ => rfl⟩
        rw [Int.zero_mul]
        refine sumZ_zero fun k hk => ?_
        have : eM M k j = 0 := by
          unfold eM; rw [getD_get hk]
          exact vr_far (by rw [hI.rect _ (List.getElem_mem hk)]; omega)
        rw [this]; simp
    obtain ⟨t, ht2⟩ := Classical.skolem.1 hcol
    have huc : upV F c c = 1 := by unfold upV; rw [if_pos rfl]
    have hdne : d ≠ 0 := fun h0 => by
      have := rows_indep hI (y := upV F c) (fun j => by rw [(ht2 j).1, h0]; simp) c c (Nat.le_refl _) (by omega)
      rw [huc] at this
      omega
    have htM : Span (latM M) t := by
      refine (hM.2 t).2 ⟨fun v hv => ?_, fun i hi => (ht2 i).2 hi⟩
      have h3 := ((hM.2 _).1 (span_cmb.2 ⟨upV F c, rfl⟩)).1 v hv
      have h4 : dotV n v (cmb M (upV F c)) = d * dotV n v t := by
        unfold dotV
        rw [← sumZ_mul]
        exact sumZ_congr fun i _ => by rw [(ht2 i).1]; grind
      rw [h4] at h3
      rcases Int.mul_eq_zero.1 h3 with h | h
      · exact absurd h hdne
      · exact h
    obtain ⟨y, hy⟩ := span_cmb.1 htM
    have h5 := rows_indep hI (y := Hnf.sub (upV F c) d y) (fun j => by
      rw [cmb_sub, (ht2 j).1, ← hy]
      grind) c c (Nat.le_refl _) (by omega)
    simp only [Hnf.sub, huc] at h5
    obtain ⟨k1, k2, k3⟩ := hd hdne
    have h6 : d * y c = 1 := by omega
    have h7 : d = 1 := by
      exact Int.eq_one_of_mul_eq_one_right hd0 h6
    exact ⟨by omega, fun i hi => by
      rcases Nat.lt_or_ge i c with h | h
      · exact h1 i h
      · obtain rfl : i = c := by omega
        exact ⟨k2, by rw [k3, h7]⟩⟩
theorem onto {n : Nat} {C M H : Mx} {b : List Int} (hM : KerL n (latM C) M) (hH : HnfOf (M.length + (trM n M).length) (wideM (trM n M)) H) (hb : b.length = M.length) : Span (latM (trM n M)) (vr b) := by
  obtain ⟨ps, hI⟩ := hM.1
  obtain ⟨qs, hF, a1, a2⟩ := left_form (trM_rect n M) hH
  generalize (upr M.length H).map (List.take M.length) = F at *
  obtain ⟨h1, h2⟩ := onto_col hM hI hF a2 M.length (Nat.le_refl _)
  have hlen : F.length ≤ M.length := isH_len hF
  refine Span.trans a1 (span_cmb.2 ⟨vr b, ?_⟩)
  funext j
  by_cases hj : j < M.length
  · unfold cmb
    rw [sumZ_one (k := j) (by omega) (fun k hk hkj => by
      have : eM F k j = 0 := by
        rcases Nat.lt_or_ge j k with h | h
        · exact hF.left k hk j (by rw [(h2 k (by omega)).1]; exact h)
        · have h3 := hF.red k j (by omega) (by omega)
          rw [(h2 j hj).1, (h2 j hj).2] at h3
          omega
      rw [this]; simp), (h2 j hj).2, Int.mul_one]
  · rw [vr_far (by omega)]
    symm
    refine sumZ_zero fun k hk => ?_
    have : eM F k j = 0 := by
      unfold eM; rw [getD_get hk]
      exact vr_far (by rw [hF.rect _ (List.getElem_mem hk)]; omega)
    rw [this]; simp
theorem redX_same {n : Nat} {ps : List Nat} {F : Mx} (h : IsH n ps F) {x y : List Int} (hx : x.length = n) (hy : y.length = n) (hs : Span (latM F) (Hnf.sub (vr x) 1 (vr y))) : redX F x = redX F y := by
  have h1 := redX_span F x h.rect hx
  have h2 := redX_span F y h.rect hy
  have hr : Span (latM F) (Hnf.sub (vr (redX F x)) 1 (vr (redX F y))) := by
    refine span_of_eq (((hs.sub 1 h1).sub (-1) h2)) fun j => ?_
    simp only [Hnf.sub]; omega
  have hz : ∀ j, Hnf.sub (vr (redX F x)) 1 (vr (redX F y)) j = 0 := by
    rcases Hnf.first (Hnf.sub (vr (redX F x)) 1 (vr (redX F y))) with h0 | ⟨j, hj, hz⟩
    · exact h0
    · exfalso
      rw [← wps_rows h.len] at hr
      obtain ⟨g, hg, e, hd⟩ := h.ech.lead hr hj hz
      obtain ⟨i, hi, rfl⟩ := wps_mem h.len hg
      simp only at e hd
      subst e
      have r1 := redX_range h hx i hi
      have r2 := redX_range h hy i hi
      obtain ⟨c, hc⟩ := hd
      have hc' : (redX F x).getD (ps.getD i 0) 0 - 1 * (redX F y).getD (ps.getD i 0) 0 = eM F i (ps.getD i 0) * c := hc
      have hj' : (redX F x).getD (ps.getD i 0) 0 - 1 * (redX F y).getD (ps.getD i 0) 0 ≠ 0 := hj
      have hlt : (eM F i (ps.getD i 0) * c).natAbs < (eM F i (ps.getD i 0)).natAbs := by rw [← hc']; omega
      rw [Int.natAbs_mul] at hlt
      have hc0 : c.natAbs = 0 := by
        rcases Nat.eq_zero_or_pos c.natAbs with h | h
        · exact h
        · have := Nat.mul_le_mul_left (eM F i (ps.getD i 0)).natAbs h; omega
      have hcz : c = 0 := by omega
      rw [hcz, Int.mul_zero] at hc'
      exact hj' hc'
  refine List.ext_getElem (by simp [hx, hy]) fun j j1 j2 => ?_
  have h3 := hz j
  simp only [Hnf.sub] at h3
  have e1 : vr (redX F x) j = (redX F x)[j] := getD_get j1 0
  have e2 : vr (redX F y) j = (redX F y)[j] := getD_get j2 0
  rw [e1, e2] at h3
  omega
theorem tmpE_dot {n : Nat} {x v : List Int} (hx : x.length = n) : tmpE x v = dotV n (vr x) (vr v) := by unfold tmpE; rw [hx]; rfl
theorem tmpL_eq {n : Nat} {M : Mx} {x y : List Int} (hx : x.length = n) (hy : y.length = n) : tmpL M x = tmpL M y ↔ ∀ v ∈ latM M, dotV n v (Hnf.sub (vr x) 1 (vr y)) = 0 := by
  unfold tmpL latM
  rw [List.map_inj_left]
  constructor
  · intro h v hv
    obtain ⟨l, hl, rfl⟩ := List.mem_map.1 hv
    have := h l hl
    rw [tmpE_dot hx, tmpE_dot hy] at this
    rw [dot_subr, dot_comm n (vr l) (vr x), this, dot_comm n (vr l) (vr y)]; omega
  · intro h l hl
    have := h _ (List.mem_map_of_mem hl)
    rw [dot_subr] at this
    rw [tmpE_dot hx, tmpE_dot hy, dot_comm n (vr x), dot_comm n (vr y)]; omega
theorem TmOK.class_iff {P : List Int} {C M : Mx} (h : TmOK P C M) {x y : List Int} (hx : x.length = P.length) (hy : y.length = P.length) : tmpL M x = tmpL M y ↔ Span (latM C) (Hnf.sub (vr x) 1 (vr y)) := by
  rw [tmpL_eq hx hy, h.kC.2]
  refine ⟨fun h => ⟨h, fun i hi => ?_⟩, fun h => h.1⟩
  simp only [Hnf.sub]
  rw [vr_far (by omega), vr_far (by omega)]; simp
theorem TmOK.rep {P : List Int} {C M : Mx} (h : TmOK P C M) {x : List Int} (hx : x.length = P.length) : tmpL M (redX C x) = tmpL M x := by
  obtain ⟨qs, hI⟩ := h.kC.1
  have hs := redX_span C x hI.rect hx
  exact ((h.class_iff hx (by simp [hx])).2 hs).symm
theorem TmOK.same_rep {P : List Int} {C M : Mx} (h : TmOK P C M) {x y : List Int} (hx : x.length = P.length) (hy : y.length = P.length) (he : tmpL M x = tmpL M y) : redX C x = redX C y := by
  obtain ⟨qs, hI⟩ := h.kC.1
  exact redX_same hI hx hy ((h.class_iff hx hy).1 he)
theorem TmOK.rep_rep {P : List Int} {C M : Mx} (h : TmOK P C M) {x : List Int} (hx : x.length = P.length) : redX C (redX C x) = redX C x :=
  h.same_rep (by simp [hx]) hx (h.rep hx)
theorem tmp_of_cmb {n : Nat} {M : Mx} {x b : List Int} (hx : x.length = n) (hb : b.length = M.length) (h : ∀ j, j < M.length → cmb (trM n M) (vr x) j = vr b j) : tmpL M x = b := by
  refine List.ext_getElem (by simp [hb]) fun j j1 j2 => ?_
  have hj : j < M.length := by simpa using j1
  have h1 := h j hj
  rw [cmb_tr M _ hj, dot_comm] at h1
  show (List.map (tmpE x) M)[j]'(by simpa using hj) = b[j]
  rw [List.getElem_map, tmpE_dot hx, h1]
  exact getD_get j2 0
end Go.Proofs.YtkjnjmihfonilaaGreatDoor
namespace Go.Proofs.YtkjnjmihfonilaaGreatDoor
open Go.RowKit Go.Sort
set_option maxRecDepth 100000 in
set_option maxHeartbeats 4000000 in
theorem transpose_any {w : World} {v : Value} {M : Mx} (hM : MatR w v M) (hck : checkM M = 0) :
    Calls Tryz.prog 87 #[v] w fun e w' => ∃ u, e = .returned (.tuple #[u, .int .i64 0]) ∧ MatO w.heap.size w' u (trM (ncols M) M) ∧ Ext w w' := by
  obtain ⟨hl12, hn12, hRt, hent⟩ := checkM_ok hck
  have hc := tableCheck_any hM
  rw [hck] at hc
  have Hc := Lib.hid hc
  have hcol := Lib.hid (fun W (hW : Ext w W) => columns_any (hM.ext hW))
  obtain ⟨sa, gb, go, cap, vs, rfl, hcap, hvl, hS, hr⟩ := hM
  have HS := Lib.hid hS
  have HV := Lib.hid hvl
  have HR := Lib.hid hr
  have HRt := Lib.hid hRt
  obtain ⟨n, hn⟩ : ∃ n, n = ncols M := ⟨_, rfl⟩
  rw [← hn] at hcol HRt hn12 ⊢
  clear hc hS hvl hr hRt hent hck hn
  go_enter Tryz.func87, Tryz.ntmps87
  go_wp2_with fail
  refine Hc.out.mono ?_
  rintro e w1 ⟨rfl, hE1⟩
  go_wp2_with fail
  refine (hcol.out _ hE1).mono ?_
  rintro e w2 ⟨rfl, hE2⟩
  have e2 := hE1.trans hE2
  clear hE1 hE2 Hc hcol
  go_wp2_with fail
  go_loopw [5, 17] (fun out idx wr => ∃ c : Nat, c ≤ n ∧ idx = .int .i64 c ∧ Hid (MatO w.heap.size wr out ((trM n M).take c)) ∧ Ext w wr) (fun _ idx _ => n - (intOf idx).toNat)
  case atStart => exact ⟨0, by omega, by go_num, Lib.hid (by rw [List.take_zero]; exact MatO.nil _ _), e2⟩
  case round =>
    obtain ⟨c, hcn, rfl, hO, hE⟩ := hrel
    generalize wr = X at *
    by_cases hlt : c < n
    · have hci : (c : Int) < (n : Int) := by omega
      obtain ⟨tr, htr⟩ : ∃ tr, tr = M.map fun r => r.getD c 0 := ⟨_, rfl⟩
      have htl : tr.length = M.length := by rw [htr]; simp
      have Htl := Lib.hid htl
      have Hsn := Lib.hid (show (trM n M).take (c + 1) = (trM n M).take c ++ [tr] by
        rw [List.take_succ_eq_append_getElem (by simpa using hlt), trM_get M hlt, htr])
      have Htk := Lib.hid (fun j (hj : j < M.length) => show tr.take (j + 1) = tr.take j ++ [(M[j]).getD c 0] by
        rw [List.take_succ_eq_append_getElem (by rw [htl]; exact hj)]
        simp [htr])
      clear htl htr
      go_wp2_with fail
      go_loopw [7, 22] (fun rv jdx wr => ∃ j : Nat, j ≤ M.length ∧ jdx = .int .i64 j ∧ Hid (RowV X.heap.size wr rv (tr.take j)) ∧ Ext X wr) (fun _ jdx _ => M.length - (intOf jdx).toNat)
      case atStart => exact ⟨0, by omega, by go_num, Lib.hid (by rw [List.take_zero]; exact RowV.nil _ _), Ext.refl _⟩
      case round =>
        obtain ⟨j, hj, rfl, hV, hE2⟩ := hrel
        generalize wr = Y at *
        by_cases hjl : j < M.length
        · have hji : (j : Int) < (M.length : Int) := by omega
          obtain rfl := HS.out.addr (by rw [HV.out]; omega)
          obtain ⟨sr, br, or, cr, hrow, hrc, hSr⟩ := MatR.row HS.out HV.out HR.out hjl
          have hrl := HRt.out _ (List.getElem_mem hjl)
          obtain ⟨r, hr⟩ : ∃ r, r = M[j] := ⟨_, rfl⟩
          have htk := Htk.out j hjl
          rw [← hr] at hrow hrc hSr hrl htk
          obtain ⟨z, hz⟩ : ∃ z, z = r.getD c 0 := ⟨_, rfl⟩
          rw [← hz] at htk
          have Htj := Lib.hid htk
          have hcr : c < r.length := by omega
          have hrow' := (hE.trans hE2).cell hrow
          have hcz := (hE.trans hE2).cell (hSr.cell c (.int .i64 z) (by rw [hz, getD_get hcr]; exact is_get hcr))
          obtain rfl := hSr.addr (by simp; omega)
          rw [hrl] at hrow'
          have Hjl := Lib.hid (show (tr.take j).length = j by rw [List.length_take, Htl.out]; omega)
          have hYs := hE2.size
          clear hrow hr hz hSr hcr hrl htk hrc
          go_wp2_with (at_builtin; refine app_int rfl _ _ 26 Tryz.underlying26 rfl rfl (hV.out.ext ((Ext.refl _).alloc _)) rfl (b := Y.heap.size) (z := z) (by go_simp) (by rw [Hjl.out]; omega) (by simp; omega) ?_; intro gg cap2 w8 hO8 hB8 hG8; rw [Hjl.out, ← Htj.out] at hO8; rw [Hjl.out])
          have hE8 : Ext X w8 := Below.trans (hE2.alloc (.cells #[.int .i64 z] 3)) hB8
          have HO8 := Lib.hid hO8
          clear hG8 hB8 hO8
          go_wp2_with fail
          go_roundw
          case rel => exact ⟨j + 1, by omega, by go_num, HO8, hE8⟩
          case measure => simp [intOf] <;> omega
        · obtain rfl : j = M.length := by omega
          have hVf : RowV X.heap.size Y u7 tr := by have := hV.out; rw [List.take_of_length_le (by rw [Htl.out]; exact Nat.le_refl _)] at this; exact this
          have hEY := hE.trans hE2
          have hXs := hE.size
          have hYs := hE2.size
          have HVY := Lib.hid ((hVf.mono hXs).ext ((Ext.refl Y).alloc (.cells #[u7] 26)))
          have HOY := Lib.hid ((hO.out.ext hE2).ext ((Ext.refl Y).alloc (.cells #[u7] 26)))
          have Hcl := Lib.hid (show ((trM n M).take c).length = c by rw [List.length_take, trM_length]; omega)
          have h1 := hVf.one
          have hsl : ∃ a l k, u7 = .slice a l k := by
            obtain ⟨a, _, _, k, e, _⟩ := hVf.row; exact ⟨_, _, _, e⟩
          obtain ⟨ua, ul, uk, rfl⟩ := hsl
          clear hVf hV hO h1
          go_wp2_with (at_builtin; refine app_mat rfl _ _ rfl rfl HOY.out rfl (b := Y.heap.size) (r := tr) (by go_simp) HVY.out (by rw [Hcl.out]; omega) (by simp; omega) ?_; intro gg cap2 w8 hO8 hB8 hG8; rw [Hcl.out, ← Hsn.out] at hO8; rw [Hcl.out])
          have hE8 : Ext w w8 := Below.trans (hEY.alloc (.cells #[.slice ua ul uk] 26)) hB8
          have HO8 := Lib.hid hO8
          clear hG8 hB8 hO8
          go_wp2_with fail
          go_roundw
          case rel => exact ⟨c + 1, by omega, by go_num, HO8, hE8⟩
          case measure => simp [intOf] <;> omega
    · obtain rfl : c = n := by omega
      have HF := Lib.hid (show MatO w.heap.size X u5 (trM c M) by have := hO.out; rw [List.take_of_length_le (by simp)] at this; exact this)
      go_wp2_with fail
      go_ret2
      exact ⟨_, rfl, HF.out, hE⟩
end Go.Proofs.YtkjnjmihfonilaaGreatDoor
namespace Go.Proofs.YtkjnjmihfonilaaGreatDoor
open Go Go.RowKit
def SeqPr {α : Type} (F : Fence) (n : Nat) (P : Program) (gf : Nat) (lb : Array Value) (encs : α → Array Value) (Kp : World → World → Prop) (Pr : Nat → α → World → Prop) (N : Nat) (w : World) : Prop :=
  ∀ (l : Nat) (J : List α → World → Prop) (W : World), Ext w W → (∀ s A B, J s A → Ext A B → J s B) →
    (∀ pre x A, J pre A → pre.length < N → Pr pre.length x A → YieldAt F (n - 1) P l (encs x) A fun e B => e = .returned (.bool true) ∧ J (pre ++ [x]) B ∧ Kp A B) →
    J [] W → CallsIn F n P gf (#[.func (.yield l) #[] #[]] ++ lb) W fun e B => (∃ v, e = .returned v) ∧ ∃ xs, xs.length = N ∧ J xs B
theorem range_pr {F : Fence} {n : Nat} {P : Program} {α : Type} {g : Operand} {ps : Array Tmp} {assign body : Code} {Q : Exit → Act → World → Prop} {a : Act} {w : World}
    (hro : F.round = none) (h1 : 1 ≤ n) {gf : Nat} {lb : Array Value} (hg : a.eval g = .func (.func gf) #[] lb) (hFg : F.fn gf) (eg : ∀ args w, (callFunc gf args).run P w = .ok (.enter gf args) w)
    {encs : α → Array Value} {Kp : World → World → Prop} {Pr : Nat → α → World → Prop} {N : Nat} {w0 : World} (hw0 : Ext w0 w) (hseq : SeqPr F (n - 1) P gf lb encs Kp Pr N w0)
    (hKt : ∀ {A B C : World}, Kp A B → Kp B C → Kp A C) (hKb : ∀ (W : World) (l : Nat) (r r' : Loop), w.heap.size ≤ l → W.heap[l]? = some (.loop r) → Kp W (W.putObj l (.loop r')))
    (hPr : ∀ k x (W : World) (l : Nat) (r r' : Loop), W.heap[l]? = some (.loop r) → Pr k x W → Pr k x (W.putObj l (.loop r'))) (hps : ∀ x, (encs x).size = ps.size)
    (I : List α → World → Prop) (hI : OwnFrom w.heap.size I) (hIe : ∀ s A B, I s A → Ext A B → I s B) (h0 : I [] w) (a₁ : α → Act)
    (hassign : ∀ (l : Nat) (x : α) (W : World) (K : Act → World → Prop), K (a₁ x) W →
      assign.wpIn (F.inRound l) (n - 1 - 1) P (Exit.then K (fun _ _ _ => False)) { tmps := (ps.zip (encs x)).foldl (fun t (p, v) => t.setIfInBounds p v) a.tmps, defers := [] } W)
    (hbody : ∀ (l : Nat) (pre : List α) (x : α) (W : World), I pre W → pre.length < N → Pr pre.length x W → body.wpIn (F.inRound l) (n - 1 - 1) P (ownPostG w.heap.size Kp I (fun _ _ _ => False) (pre ++ [x]) W) (a₁ x) W)
    (hdone : ∀ (D : Nat) (xs : List α) (W : World), w.heap.size ≤ D → xs.length = N → I xs W → W.heap[D]? = some (.deferred (some [])) → Q .normal { a with defers := { target := .collected D, args := #[] } :: a.defers } W) :
    (Code.rangeFunc g ps assign body).wpIn F n P Q a w := by
  refine wpIn_rangeFunc fun fn hfn => ?_
  rw [hro]
  obtain ⟨lp, hlp⟩ : ∃ lp : LoopState → Option Code → Loop, lp = fun st pe => { state := st, pending := pe, fn, tmps := a.tmps, params := ps, assign, body, defers := w.heap.size } := ⟨_, rfl⟩
  obtain ⟨d, hd⟩ : ∃ d, d = w.heap.size := ⟨_, rfl⟩
  have hE1 : Ext w ((w.alloc (.deferred (some []))).alloc (.loop (lp .ready none))) := ((Ext.refl w).alloc _).alloc _
  have hL1 : ((w.alloc (.deferred (some []))).alloc (.loop (lp .ready none))).heap[d + 1]? = some (.loop (lp .ready none)) := by
    have := World.alloc_heap_new (w.alloc (.deferred (some []))) (.loop (lp .ready none))
    rw [World.size_alloc] at this; rw [hd]; exact this
  have hD1 : ((w.alloc (.deferred (some []))).alloc (.loop (lp .ready none))).heap[d]? = some (.deferred (some [])) := by
    rw [hd]; exact (Below.heap_alloc _ _ _ (by simp)).trans (World.alloc_heap_new w _)
  obtain ⟨W1, hW1⟩ : ∃ W1, W1 = (w.alloc (.deferred (some []))).alloc (.loop (lp .ready none)) := ⟨_, rfl⟩
  rw [← hW1] at hE1 hL1 hD1
  refine ⟨d + 1, [{ target := .collected d, args := #[] }], W1, { target := .fn (.func gf) lb, args := #[.func (.yield (d + 1)) #[] #[]] }, W1, gf, #[.func (.yield (d + 1)) #[] #[]] ++ lb, W1, ?_, ?_, ?_, ?_, fun _ => h1, ?_⟩
  · rw [hW1, hlp, hd]; exact run_enterLoop_outer _ _ _ _ _
  · simp only [resolve, hg]
    simp [go_sem]
  · intro f' hf'
    simp [Target.leads] at hf'
    subst hf'; exact hFg
  · simp [invoke, go_sem, eg]
  refine (hseq (d + 1) (fun pre W => I pre W ∧ W.heap[d + 1]? = some (.loop (lp .ready none)) ∧ W.heap[d]? = some (.deferred (some []))) _ (hw0.trans hE1) (fun s A B hs hAB => ⟨hIe _ _ _ hs.1 hAB, (hAB.block _ (Array.getElem?_eq_some_iff.1 hs.2.1).1).trans hs.2.1, (hAB.block _ (Array.getElem?_eq_some_iff.1 hs.2.2).1).trans hs.2.2⟩) ?_ ⟨hIe _ _ _ h0 hE1, hL1, hD1⟩).mono ?_
  · rintro pre x W ⟨hi, hl, hk⟩ hlen hpr
    have hlt : d + 1 < W.heap.size := (Array.getElem?_eq_some_iff.1 hl).1
    have hy := run_yield (P := P) (args := encs x) hl (by rw [hlp]; exact hps x)
    rw [hlp] at hy
    refine ⟨fn, _, assign, body, hy, roundIn_of_wpIn hfn (hassign _ x W _ ⟨_, run_beginRound hl (by rw [hlp]), ?_⟩)⟩
    have hl2 : (W.putObj (d + 1) (.loop { lp .ready none with state := .busy })).heap[d + 1]? = some (.loop { lp .ready none with state := .busy }) := World.putObj_heap_same hlt
    have hk2 : (W.putObj (d + 1) (.loop { lp .ready none with state := .busy })).heap[d]? = some (.deferred (some [])) := (World.putObj_heap_other (by omega)).trans hk
    refine wpIn_mono (hbody _ pre x _ (hI.putObj _ hi (by omega) hl rfl) hlen (hPr _ _ _ _ _ _ hl hpr)) ?_
    rintro e a3 W3 hp
    cases e with
    | normal =>
      obtain ⟨hk3, hkp3, hi3⟩ := hp
      have hl3 := hk3.same _ _ (by omega) hl2 rfl
      have hd3 := hk3.same _ _ (by omega) hk2 rfl
      have hr := run_endRound (P := P) none hl3
      refine ⟨_, _, hr, rfl, ⟨hI.putObj _ hi3 (by omega) hl3 rfl, ?_, (World.putObj_heap_other (by omega)).trans hd3⟩, hKt (hKt (hKb _ _ _ _ (by omega) hl) hkp3) (hKb _ _ _ _ (by omega) hl3)⟩
      rw [World.putObj_heap_same (Array.getElem?_eq_some_iff.1 hl3).1, hlp]
      rfl
    | ret => exact hp.2.elim
    | exit id => exact hp.2.elim
    | goto t => exact hp.2.elim
    | panic ch => exact hp.elim
    | outgrown => exact hp.elim
  · rintro e W2 ⟨⟨v, rfl⟩, xs, hxs, hi, hl, hk⟩
    have hr := run_endLoop (P := P) hl (by rw [hlp]; simp)
    rw [show (lp .ready none).pending = none by rw [hlp]] at hr
    refine ⟨none, _, hr, ?_⟩
    exact hdone d xs _ (by omega) hxs (hI.putObj _ hi (by omega) hl rfl) ((World.putObj_heap_other (by omega)).trans hk)
section
variable {l n : Nat} {P : Program} {ops : Array Oper} {Q : Exit → Act → World → Prop}
theorem upon_round {o : Oper} {a : Act} {next next' : Act → World → Prop} {r : Result Next} (hn : ∀ a w, next a w → next' a w) (h : o.upon P a next Q r) : o.uponIn (Fence.wide.inRound l) n P a next' Q r := by
  cases r with
  | ok x w' =>
    cases x with
    | value v => exact hn _ _ h
    | skip => exact hn _ _ h
    | defer d => exact hn _ _ h
    | enter f args =>
      refine ⟨fun hd => (by simp [Fence.wide] at hd), ?_⟩
      refine CallsIn.mono (callsIn_wide.2 h) fun e w'' he => ?_
      cases e with
      | returned v => exact hn _ _ he
      | panicked c => exact he
      | outgrown => exact he
    | row rw args =>
      refine ⟨fun hd => (by simp [Fence.wide] at hd), fun c cs _ => ?_⟩
      obtain ⟨v, w'', r, s⟩ := h c cs
      exact ⟨v, w'', hn _ _ r, stepsIn_wide.2 s⟩
    | _ => exact h.elim
  | halt x w' => cases x <;> first | exact h | exact h.elim
theorem wpOps_round (hd : ∀ (i : Nat) (o : Oper), ops[i]? = some o → ∀ c, o.op ≠ Op.defer c) (hQ : ∀ a w, ¬ Q .outgrown a w) : ∀ (s : List Nat) (a : Act) (w : World), wpOps P ops Q s a w → wpOpsIn (Fence.wide.inRound l) n P ops Q s a w
  | [], _, _, h => h
  | i :: s, a, w, h => by
    unfold wpOps at h
    unfold wpOpsIn
    split
    · rename_i e; simp only [e] at h; exact wpOps_round hd hQ s a w h
    · rename_i o e
      simp only [e] at h
      split
      · rename_i hw
        rw [if_pos hw] at h
        rcases h with h | ⟨_, a0, w0, h0⟩
        · refine ⟨fun _ _ => trivial, ?_⟩
          rw [show (Fence.wide.inRound l).round = some l from rfl, Oper.semAt_some l _ _ (hd i o e)]
          exact upon_round (wpOps_round hd hQ s) h
        · exact absurd h0 (hQ a0 w0)
      · rename_i hw
        rw [if_neg hw] at h
        exact ⟨fun _ _ => trivial, wpOps_round hd hQ s _ _ h⟩
theorem round_any {id : Nat} {a : Act} {w : World} (hm : P.follows .mixedOrders = true) (hd : ∀ (i : Nat) (o : Oper), ops[i]? = some o → ∀ c, o.op ≠ Op.defer c) (hQ : ∀ a w, ¬ Q .outgrown a w)
    (h : wpAny P .any ops Q ops.size (Array.replicate ops.size false) a w.drew) : (Code.region id ops true).wpIn (Fence.wide.inRound l) n P Q a w :=
  wpIn_region_draw fun t => by
    simp only [Region.schedule, hm, Bool.true_or, if_true]
    exact wpOps_round hd hQ _ _ _ (wpAny_sound ops.size t _ a _ h)
def noDefer (l : List Oper) : Bool := l.all fun o => match o.op with | .defer _ => false | _ => true
theorem noDefer_ops {l : List Oper} (h : noDefer l = true) : ∀ (i : Nat) (o : Oper), l.toArray[i]? = some o → ∀ c, o.op ≠ Op.defer c := fun i o ho c e => by
  have hm : o ∈ l := by
    rw [List.getElem?_toArray] at ho
    exact List.mem_of_getElem? ho
  have := List.all_eq_true.1 h o hm
  rw [e] at this
  cases this
theorem round_quiet {id : Nat} {a : Act} {w : World} {s : List Oper} (hm : P.follows .mixedOrders = true) (hB : Region.lexB .any s.toArray = true) (hd : noDefer s = true) (hQ : ∀ a w, ¬ Q .outgrown a w)
    (h : wpQuiet P s.toArray (fun w' => ∃ p : Regrown, w' = Sort.grow (redrawn w p.d) p.os) (fun a' => ∀ w', (∃ p : Regrown, w' = Sort.grow (redrawn w p.d) p.os) → Q .normal a' w') s a) : (Code.region id s.toArray true).wpIn (Fence.wide.inRound l) n P Q a w := by
  refine round_any hm (noDefer_ops hd) hQ ?_
  simp only [Region.lexB, Bool.and_eq_true] at hB
  refine wpAny_of_quiet (C := fun w' => ∃ p : Regrown, w' = Sort.grow (redrawn w p.d) p.os) (Q := fun a' => ∀ w', (∃ p : Regrown, w' = Sort.grow (redrawn w p.d) p.os) → Q .normal a' w') (fun _ w' hw' h => h w' hw') _ _ _ _ ⟨⟨w.drawn + 1, #[]⟩, by rw [Sort.grow_empty]; rfl⟩ ?_
  have := wpAnyQ_lex (C := fun w' => ∃ p : Regrown, w' = Sort.grow (redrawn w p.d) p.os) (md := .any) hB.1 s 0 (Array.replicate s.toArray.size false) a (by simp) (by simpa using hB.2) h
  simpa using this
end
end Go.Proofs.YtkjnjmihfonilaaGreatDoor
namespace Go.Proofs.YtkjnjmihfonilaaGreatDoor
open Go.RowKit Go.Sort Go.Shelf
attribute [local go_sem] Oper.semAt_some
set_option maxRecDepth 100000 in
theorem pivots_any {w : World} {m n : Nat} {vb : Value} (_ : vb.oneCell' = true) :
    CallsIn Fence.wide m Tryz.prog 137 #[.agg #[.int .i64 n, vb]] w fun e w' => e = .returned (.func (.func 172) #[] #[.pointer (some ⟨w.heap.size, 0, none⟩)]) ∧ w' = w.alloc (.cells #[.int .i64 n, vb] 94) := by
  refine callsIn_wide.2 ?_
  go_enter Tryz.func137, Tryz.ntmps137
  go_wp2_with fail
  go_ret
  exact ⟨rfl, rfl⟩
abbrev encR (n : Nat) (x : Int × Nat × Nat) : Array Value := #[.int .i64 x.1, slv x.2.1 n x.2.2]
def PrR (B : Nat) (M : Mx) (k : Nat) (x : Int × Nat × Nat) (W : World) : Prop := x.1 = pvI (M.getD k []) ∧ OwnV 80 B W x.2.1 x.2.2 (ss (M.getD k []))
theorem PrR.put {B k : Nat} {M : Mx} {x : Int × Nat × Nat} {W : World} {l : Nat} {o : Obj} (o' : Obj) (hl : W.heap[l]? = some o) (ho : o.isCells = false) (h : PrR B M k x W) : PrR B M k x (W.putObj l o') :=
  ⟨h.1, ownsRow_putObj h.2 o' hl ho⟩
set_option maxRecDepth 100000 in
set_option maxHeartbeats 2000000 in
theorem pivots1_seq {m Bl n : Nat} {sb : Option Addr} {lb cb : Nat} {M : Mx} {w w0 : World} (hm : 1 ≤ m) (hM : MatR w (.slice sb lb cb) M) (hR : Rect n M) (hn : n ≤ 1000) (hml : M.length ≤ 1000) (h64 : ∀ r ∈ M, ∀ z ∈ r, I64 z) (hE : Ext w w0) (hb : w0.cell? ⟨Bl, 1, none⟩ = some (.slice sb lb cb)) (hL : Laid w) :
    SeqPr Fence.wide m Tryz.prog 172 #[.pointer (some ⟨Bl, 0, none⟩)] (encR n) (Below w.heap.size) (PrR w0.heap.size M) M.length w0 := by
  intro l J W hW hJ hY h0
  have HL := Lib.hid hL
  have HRt := Lib.hid hR
  have H64 := Lib.hid h64
  have hW1 := hW.cell hb
  obtain ⟨sa, gb, go, cap, vs, hv, hcap, hvl, hS, hr⟩ := hM
  injection hv with q1 q2 q3
  subst q1 q2 q3
  have HS := Lib.hid hS
  have HV := Lib.hid hvl
  have HR := Lib.hid hr
  have HY := Lib.hid hY
  have HJ := Lib.hid hJ
  have hwW := hE.trans hW
  have hsz := hW.size
  clear hS hvl hr hR h64 hL hY hJ hb
  show CallsIn Fence.wide m Tryz.prog 172 #[.func (.yield l) #[] #[], .pointer (some ⟨Bl, 0, none⟩)] W _
  refine callsIn_of_wp Tryz.func172 rfl trivial ?_ rfl
  simp only [Tryz.ntmps172, List.size_toArray, List.length_cons, List.length_nil, Nat.reduceAdd, Nat.reduceSub, Array.replicate_succ, Array.replicate_zero, List.push_toArray, List.append_toArray, List.nil_append, List.cons_append]
  gi_wp2
  gi_loopw [9] (fun i wr => ∃ k : Nat, k ≤ M.length ∧ i = .int .i64 k ∧ Ext w wr ∧ w0.heap.size ≤ wr.heap.size ∧ Hid (∃ pre, pre.length = k ∧ J pre wr))
    (fun i _ => M.length - (intOf i).toNat)
  case atStart => exact ⟨0, Nat.zero_le _, rfl, hwW, hsz, Lib.hid ⟨[], rfl, h0⟩⟩
  case round =>
    clear h0
    obtain ⟨k, hk, rfl, hX, hXs, hJs⟩ := hrel
    generalize wr = X at *
    by_cases hlt : k < M.length
    · have hki : (k : Int) < (M.length : Int) := by omega
      obtain rfl := HS.out.addr (by rw [HV.out]; omega)
      obtain ⟨sr, br, or, cr, hrow, hrc, hSr⟩ := MatR.row HS.out HV.out HR.out hlt
      have hrl : M[k].length = n := HRt.out _ (List.getElem_mem hlt)
      have hr64 := H64.out _ (List.getElem_mem hlt)
      have hrow' := hX.cell hrow
      obtain ⟨r, hrd⟩ : ∃ r, r = M[k] := ⟨_, rfl⟩
      have Hrd := Lib.hid (show M.getD k [] = r by rw [getD_get hlt, hrd])
      rw [← hrd] at hrow' hrc hSr hrl hr64
      have hlo := longOf_any (w := X) (v := .slice sr r.length cr) (r := r) ⟨sr, br, or, cr, rfl, hrc, hSr.ext hX⟩ (by omega) hr64 (HL.out.ext hX)
      rw [hrl] at hlo hrow'
      have Hlo := Lib.hid hlo
      have Hrl := Lib.hid hrl
      clear hlo hrl hr64 hrd hrow hSr hrc
      gi_wp2
      refine ⟨trivial, (callsIn_wide.2 Hlo.out).mono ?_⟩
      rintro e W2 ⟨g, c, rfl, hO, hE2⟩
      rw [Hrl.out]
      have hld := llead_any (w := W2) (cap := c) hO.sl (by rw [Hrl.out]; omega)
      rw [Hrl.out] at hld
      have Hld := Lib.hid hld
      have HO := Lib.hid hO
      obtain ⟨z, hz⟩ : ∃ z, z = pvI r := ⟨_, rfl⟩
      rw [← hz] at Hld
      have Hz := Lib.hid hz
      clear hld hO hz Hlo
      gi_wp2
      refine ⟨trivial, (callsIn_wide.2 Hld.out).mono ?_⟩
      rintro e W3 ⟨rfl, hE3⟩
      obtain ⟨pre, hpl, hpj⟩ := hJs.out
      have hX3 := hE2.trans hE3
      obtain ⟨fn, tmps, assign, body, hy, hR⟩ := HY.out pre (z, g, c) W3 (HJ.out _ _ _ hpj hX3) (by omega) (by
        rw [hpl]
        refine ⟨by rw [Hrd.out]; exact Hz.out, ?_⟩
        rw [Hrd.out]
        exact (HO.out.ext hE3).mono (by omega))
      dsimp only [encR] at hy
      clear Hld
      gi_wp2
      refine hR.mono ?_
      rintro e W4 ⟨rfl, hJ4, hk4⟩
      have hX4 : Ext w W4 := Ext.mk' (Below.trans (hX.trans hX3) hk4)
      have hs4 : w0.heap.size ≤ W4.heap.size := by have := hX3.size; have := hk4.size; omega
      gi_wp2
      go_roundw
      case rel => exact ⟨k + 1, by omega, by go_num, hX4, hs4, Lib.hid ⟨pre ++ [(z, g, c)], by simp [hpl], hJ4⟩⟩
      case measure => simp [intOf]; omega
    · obtain rfl : k = M.length := by omega
      obtain ⟨pre, hpl, hpj⟩ := hJs.out
      gi_wp2
      go_end0
      exact ⟨⟨_, rfl⟩, pre, hpl, hpj⟩
end Go.Proofs.YtkjnjmihfonilaaGreatDoor
