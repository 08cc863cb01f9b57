/- Part 11 of the proof of the claim: contracts of the functions that it reaches, and plain laws; no condition. -/
import Derived.Test.YtedlgnoiojcjaaaGreatDoorV10
import Derived.Test.YtedlgnoiojcjaaaGreatDoorV09
import Derived.Deep.RegionHeld3
import Derived.Deep.AppendLies
set_option maxRecDepth 100000
namespace Go.Proofs.YtedlgnoiojcjaaaGreatDoor
def en (ls : List Ln) (i j : Nat) : Int := col j (ls.getD i default)
theorem en_set (ls : List Ln) {i : Nat} (hi : i < ls.length) (l : Ln) (t j : Nat) : en (ls.set i l) t j = if t = i then col j l else en ls t j := by
 unfold en
 rw [getD_set _ _ _ _ _ hi]
 split <;> rfl
theorem Step.zero {d n m j : Nat} {a b : List Ln} (h : Step d a b) (hd : Dim n m a) (hz : ∀ i, d ≤ i → i < a.length → en a i j = 0) : ∀ i, d ≤ i → i < b.length → en b i j = 0 := by
 intro i hi hl
 rw [h.length] at hl
 cases h with
 | swap p q hp hq dp dq =>
  rw [en_set _ (by simpa using hq), en_set _ hp]
  have e1 := hz p dp hp
  have e2 := hz q dq hq
  unfold en at e1 e2
  rw [getD_get hp] at e1
  rw [getD_get hq] at e2
  split
  ·exact e1
  ·split
   ·exact e2
   ·exact hz i hi hl
 | sub p q k hp hq hpq dp dq =>
  rw [en_set _ hp]
  split
  ·have e1 := hz p dp hp
   have e2 := hz q dq hq
   unfold en at e1 e2
   rw [getD_get hp] at e1
   rw [getD_get hq] at e2
   rw [col_lsub _ _ (by rw [(hd.get hp).1, (hd.get hq).1]; exact Nat.le_refl _), e1, e2]; simp
  ·exact hz i hi hl
 | neg p hp dp =>
  rw [en_set _ hp]
  split
  ·have e1 := hz p dp hp
   unfold en at e1
   rw [getD_get hp] at e1
   rw [col_lneg, e1]; rfl
  ·exact hz i hi hl
theorem Ops.zero {d n m j : Nat} {a b : List Ln} (h : Ops d a b) (hd : Dim n m a) (hz : ∀ i, d ≤ i → i < a.length → en a i j = 0) : ∀ i, d ≤ i → i < b.length → en b i j = 0 := by
 induction h with
 | refl => exact hz
 | step o s ih => exact s.zero (hd.ops o) ih
theorem Ops.en_ahead {d : Nat} {a b : List Ln} (h : Ops d a b) {i : Nat} (hi : i < d) (j : Nat) : en b i j = en a i j := by
 unfold en
 rw [List.getD_eq_getElem?_getD, List.getD_eq_getElem?_getD, h.ahead hi]
structure FormTo (c d : Nat) (ps : List Nat) (ls : List Ln) : Prop where
 len : ps.length = d
 le : d ≤ ls.length
 lt : ∀ i, i < d → ps.getD i 0 < c
 inc : ∀ i k, i < k → k < d → ps.getD i 0 < ps.getD k 0
 left : ∀ i, i < d → ∀ j, j < ps.getD i 0 → en ls i j = 0
 pos : ∀ i, i < d → 0 < en ls i (ps.getD i 0)
 red : ∀ i k, i < k → k < d → 0 ≤ en ls i (ps.getD k 0) ∧ en ls i (ps.getD k 0) < en ls k (ps.getD k 0)
 below : ∀ i, d ≤ i → i < ls.length → ∀ j, j < c → en ls i j = 0
theorem FormTo.start (ls : List Ln) : FormTo 0 0 [] ls :=
 ⟨rfl, Nat.zero_le _, fun i h => by omega, fun i k _ h => by omega, fun i h => by omega, fun i h => by omega, fun i k _ h => by omega, fun i _ _ j h => by omega⟩
theorem FormTo.skip {c d N k n m : Nat} {ps : List Nat} {ls ls' : List Ln} (h : FormTo c d ps ls) (hd : Dim n m ls) (hN : ls.length = d + N) (hs : SwR c d N k ls ls' false) : FormTo (c + 1) d ps ls' := by
 have hl := hs.ops.length
 refine ⟨h.len, by omega, fun i hi => by have := h.lt i hi; omega, h.inc, fun i hi j hj => ?_, fun i hi => ?_, fun i k hik hk => ?_, fun i hi hi2 j hj => ?_⟩
 ·rw [hs.ops.en_ahead hi]; exact h.left i hi j hj
 ·rw [hs.ops.en_ahead hi]; exact h.pos i hi
 ·rw [hs.ops.en_ahead (by omega), hs.ops.en_ahead (by omega)]; exact h.red i k hik hk
 ·by_cases e : j = c
  ·subst e
   have := hs.no rfl (i - d) (by omega)
   unfold cols at this
   rw [show d + (i - d) = i by omega] at this
   exact this
  ·exact hs.ops.zero hd (fun i h1 h2 => h.below i h1 h2 j (by omega)) i hi hi2
def abvTo (c d j : Nat) (ls : List Ln) : List Ln := ls.mapIdx fun i l => if i < j then redL c (ls.getD d default) l else l
@[simp] theorem abvTo_length (c d j : Nat) (ls : List Ln) : (abvTo c d j ls).length = ls.length := by simp [abvTo]
theorem abvTo_get (c d j : Nat) (ls : List Ln) (i : Nat) (h : i < ls.length) : (abvTo c d j ls)[i]'(by simpa using h) = if i < j then redL c (ls.getD d default) ls[i] else ls[i] := by
 simp [abvTo]
theorem abvTo_zero (c d : Nat) (ls : List Ln) : abvTo c d 0 ls = ls := by
 refine List.ext_getElem (by simp) fun i h1 h2 => ?_
 rw [abvTo_get _ _ _ _ _ h2, if_neg (by omega)]
theorem abvTo_getD (c d j : Nat) {ls : List Ln} {i : Nat} (h : i < ls.length) : (abvTo c d j ls).getD i default = if i < j then redL c (ls.getD d default) (ls.getD i default) else ls.getD i default := by
 rw [getD_get (by simpa using h), abvTo_get c d j ls i h, getD_get h]
theorem abvTo_step (c d j : Nat) (ls : List Ln) (h : j < d) (hd : d < ls.length) :
  abvTo c d (j + 1) ls = (abvTo c d j ls).set j (lsub ((col c ((abvTo c d j ls).getD j default)).fdiv (col c ((abvTo c d j ls).getD d default))) ((abvTo c d j ls).getD j default) ((abvTo c d j ls).getD d default)) := by
 rw [abvTo_getD c d j (by omega), abvTo_getD c d j (by omega), if_neg (by omega), if_neg (by omega)]
 refine List.ext_getElem (by simp) fun i h1 h2 => ?_
 have hi : i < ls.length := by simpa using h1
 rw [abvTo_get _ _ _ _ _ hi]
 by_cases hij : i = j
 ·subst hij
  rw [List.getElem_set_self, if_pos (by omega), getD_get (by omega : i < ls.length)]; rfl
 ·rw [List.getElem_set_ne (Ne.symm hij), abvTo_get _ _ _ _ _ hi]
  by_cases hb : i < j
  ·rw [if_pos hb, if_pos (by omega)]
  ·rw [if_neg hb, if_neg (by omega)]
theorem abvTo_ops (c d : Nat) (ls : List Ln) (hd : d < ls.length) : ∀ j, j ≤ d → Ops 0 ls (abvTo c d j ls)
 | 0, _ => by rw [abvTo_zero]; exact .refl _
 | j + 1, h => by
  rw [abvTo_step c d j ls (by omega) hd, getD_get (by simp; omega), getD_get (by simp; omega)]
  exact .step (abvTo_ops c d ls hd j (by omega)) (.sub _ j d _ (by simp; omega) (by simp; omega) (by omega) (by omega) (by omega))
theorem en_abv {c d n m : Nat} {ls : List Ln} (hd : Dim n m ls) (hdl : d < ls.length) (j i : Nat) : en (abvTo c d d ls) i j = if i < d then en ls i j - (en ls i c).fdiv (en ls d c) * en ls d j else en ls i j := by
 unfold en
 rcases Nat.lt_or_ge i ls.length with hi | hi
 ·rw [abvTo_getD c d d hi]
  split
  ·unfold redL
   rw [col_lsub _ _ (by rw [(hd.getD hi).1, (hd.getD hdl).1]; exact Nat.le_refl _)]
  ·rfl
 ·rw [if_neg (by omega)]
  simp only [List.getD_eq_getElem?_getD]
  rw [List.getElem?_eq_none (by simpa using hi), List.getElem?_eq_none hi]
def posAt (c d : Nat) (ls : List Ln) : List Ln := if en ls d c < 0 then ls.set d (lneg (ls.getD d default)) else ls
@[simp] theorem posAt_length (c d : Nat) (ls : List Ln) : (posAt c d ls).length = ls.length := by unfold posAt; split <;> simp
theorem posAt_ops (c d : Nat) (ls : List Ln) (hd : d < ls.length) : Ops d ls (posAt c d ls) := by
 unfold posAt
 split
 ·rw [getD_get hd]; exact .one (.neg ls d hd (Nat.le_refl _))
 ·exact .refl _
theorem en_posAt {c d : Nat} {ls : List Ln} (hd : d < ls.length) (i j : Nat) : en (posAt c d ls) i j = if i = d ∧ en ls d c < 0 then -en ls d j else en ls i j := by
 unfold posAt
 by_cases h : en ls d c < 0
 ·rw [if_pos h, en_set _ hd]
  by_cases e : i = d
  ·rw [if_pos e, if_pos ⟨e, h⟩, col_lneg]; rfl
  ·rw [if_neg e, if_neg (by omega)]
 ·rw [if_neg h, if_neg (by omega)]
theorem FormTo.next {c d N k n m : Nat} {ps : List Nat} {ls ls' : List Ln} (h : FormTo c d ps ls) (hd : Dim n m ls) (hN : ls.length = d + N) (hs : SwR c d N k ls ls' true) :
  FormTo (c + 1) (d + 1) (ps ++ [c]) (abvTo c d d (posAt c d ls')) := by
 obtain ⟨hN0, hz, hzb⟩ := hs.yes rfl
 have hl := hs.ops.length
 have hdl : d < ls'.length := by omega
 have hd' := hd.ops hs.ops
 have hd2 := hd'.ops (posAt_ops c d ls' hdl)
 have hz' : en ls' d c ≠ 0 := hz
 have hbz : ∀ j, j < c → ∀ i, d ≤ i → i < ls'.length → en ls' i j = 0 := fun j hj => hs.ops.zero hd (fun i h1 h2 => h.below i h1 h2 j hj)
 -- line d of the new lines
 have hdc : 0 < en (posAt c d ls') d c := by rw [en_posAt hdl]; split <;> omega
 have hdz : ∀ j, j < c → en (posAt c d ls') d j = 0 := fun j hj => by
  have := hbz j hj d (Nat.le_refl _) hdl
  rw [en_posAt hdl, this]; split <;> rfl
 have hab : ∀ i j, i < d → j < c → en (abvTo c d d (posAt c d ls')) i j = en ls i j := fun i j hi hj => by
  rw [en_abv hd2 (by simpa using hdl), if_pos hi, hdz j hj, en_posAt hdl, if_neg (by omega), hs.ops.en_ahead hi]; simp
 have hdd : ∀ j, en (abvTo c d d (posAt c d ls')) d j = en (posAt c d ls') d j := fun j => by rw [en_abv hd2 (by simpa using hdl), if_neg (by omega)]
 have hps : ∀ i, i < d → (ps ++ [c]).getD i 0 = ps.getD i 0 := fun i hi => by
  simp only [List.getD_eq_getElem?_getD]; rw [List.getElem?_append_left (by rw [h.len]; exact hi)]
 have hpd : (ps ++ [c]).getD d 0 = c := by
  simp only [List.getD_eq_getElem?_getD]; rw [List.getElem?_append_right (by rw [h.len]; exact Nat.le_refl _), h.len]; simp
 have hcase : ∀ i, i < d + 1 → i < d ∨ i = d := fun i hi => by omega
 refine ⟨by simp [h.len], by simp; omega, fun i hi => ?_, fun i k hik hk => ?_, fun i hi j hj => ?_, fun i hi => ?_, fun i k hik hk => ?_, fun i hi hi2 j hj => ?_⟩
 ·rcases hcase i hi with hi | rfl
  ·rw [hps i hi]; have := h.lt i hi; omega
  ·rw [hpd]; omega
 ·rw [hps i (by omega)]
  rcases hcase k hk with hk | rfl
  ·rw [hps k hk]; exact h.inc i k hik hk
  ·rw [hpd]; exact h.lt i hik
 ·rcases hcase i hi with hi | rfl
  ·rw [hps i hi] at hj
   have := h.lt i hi
   rw [hab i j hi (by omega)]; exact h.left i hi j hj
  ·rw [hpd] at hj; rw [hdd]; exact hdz j hj
 ·rcases hcase i hi with hi | rfl
  ·rw [hps i hi, hab i _ hi (h.lt i hi)]; exact h.pos i hi
  ·rw [hpd, hdd]; exact hdc
 ·rcases hcase k hk with hk | rfl
  ·rw [hps k hk, hab i _ (by omega) (h.lt k hk), hab k _ hk (h.lt k hk)]; exact h.red i k hik hk
  ·rw [hpd, hdd, en_abv hd2 (by simpa using hdl), if_pos hik]
   exact fdr_pos hdc
 ·have hi3 : i < ls'.length := by simpa using hi2
  rw [en_abv hd2 (by simpa using hdl), if_neg (by omega), en_posAt hdl, if_neg (by omega)]
  by_cases e : j = c
  ·subst e
   have := hzb (i - d) (by omega) (by omega)
   unfold cols at this
   rw [show d + (i - d) = i by omega] at this
   exact this
  ·exact hbz j (by omega) i (by omega) hi3
def bC (L k : Nat) : Nat → Nat
 | 0 => k
 | c + 1 => 2 * (bC L k c * (L + 2) + 2) + 1
theorem bC_le (L k c : Nat) : bC L k c * (L + 2) + 2 ≤ bC L k (c + 1) ∧ bC L k c ≤ bC L k (c + 1) := by
 rw [bC]
 have : bC L k c * (L + 2) = bC L k c * L + bC L k c * 2 := Nat.mul_add _ _ _
 omega
theorem bC_mono (L k c : Nat) : ∀ e, bC L k c ≤ bC L k (c + e)
 | 0 => Nat.le_refl _
 | e + 1 => Nat.le_trans (bC_mono L k c e) (bC_le L k (c + e)).2
def AllL (E : Nat) (ls : List Ln) : Prop := ∀ i, i < ls.length → All (fun z => z.natAbs < 2 ^ E) (ls.getD i default)
theorem AllL.mono {E F : Nat} {ls : List Ln} (h : AllL E ls) (hf : E ≤ F) : AllL F ls := fun i hi => (h i hi).mono fun z hz => Nat.lt_of_lt_of_le hz (Nat.pow_le_pow_right (by omega) hf)
theorem SwR.all {c d N k : Nat} {ls ls' : List Ln} {r : Bool} (h : SwR c d N k ls ls' r) (hN : ls.length = d + N) (ha : AllL k ls) : AllL (k * (N + 2) + 2) ls' := by
 intro i hi
 rw [h.ops.length] at hi
 rcases Nat.lt_or_ge i d with hid | hid
 ·have e : ls'.getD i default = ls.getD i default := by simp only [List.getD_eq_getElem?_getD]; rw [h.ops.ahead hid]
  rw [e]
  refine (ha i (by omega)).mono fun z hz => Nat.lt_of_lt_of_le hz (Nat.pow_le_pow_right (by omega) ?_)
  have : k * (N + 2) = k * N + k * 2 := Nat.mul_add _ _ _
  omega
 ·have := h.small (i - d) (by omega)
  rwa [show d + (i - d) = i by omega] at this
theorem AllL.pos {E c d : Nat} {ls : List Ln} (h : AllL E ls) (hd : d < ls.length) : AllL E (posAt c d ls) := by
 unfold posAt
 split
 ·intro i hi
  rw [getD_set _ _ _ _ _ hd]
  split
  ·exact All.lneg (fun z hz => by rw [Int.natAbs_neg]; exact hz) (h d hd)
  ·exact h i (by simpa using hi)
 ·exact h
theorem AllL.abv {E c d j : Nat} {ls : List Ln} (h : AllL E ls) (hd : d < ls.length) (hz : en ls d c ≠ 0) : AllL (2 * E + 1) (abvTo c d j ls) := by
 intro i hi
 have hi' : i < ls.length := by simpa using hi
 rw [abvTo_getD c d j hi']
 have q0 : 0 < 2 ^ E := Nat.pow_pos (by omega)
 have e : 2 ^ (2 * E + 1) = 2 ^ E * 2 ^ E * 2 := by rw [Nat.pow_succ, Nat.two_mul, Nat.pow_add]
 have h1 : 2 ^ E ≤ 2 ^ E * 2 ^ E := Nat.le_mul_of_pos_right _ q0
 split
 ·unfold redL
  refine All.lsub _ (Q := fun z => z.natAbs < 2 ^ E) (R := fun z => z.natAbs < 2 ^ E) ?_ ?_ (h i hi') (h d hd)
  ·intro x hx; have : x.natAbs < 2 ^ E := hx; omega
  ·intro x y hx hy
   have hx' : x.natAbs < 2 ^ E := hx
   have h2 := fdiv_abs (en ls i c) hz
   have h3 := (h i hi').col (Q := fun z => z.natAbs < 2 ^ E) (by simpa using q0) c
   have h4 : ((en ls i c).fdiv (en ls d c) * y).natAbs ≤ 2 ^ E * 2 ^ E := by
    rw [Int.natAbs_mul]
    refine Nat.mul_le_mul ?_ (Nat.le_of_lt hy)
    have : (en ls i c).natAbs < 2 ^ E := h3
    omega
   show (x - (en ls i c).fdiv (en ls d c) * y).natAbs < _
   omega
 ·exact (h i hi').mono fun z hz => by have : z.natAbs < 2 ^ E := hz; omega
theorem bC_next {L N k c : Nat} (hN : N ≤ L) : 2 * (bC L k c * (N + 2) + 2) + 1 ≤ bC L k (c + 1) := by
 rw [bC]
 have : bC L k c * (N + 2) ≤ bC L k c * (L + 2) := Nat.mul_le_mul_left _ (by omega)
 omega
end Go.Proofs.YtedlgnoiojcjaaaGreatDoor
namespace Go.Proofs.YtedlgnoiojcjaaaGreatDoor
open Hnf (V Span Ech Red)
def vr (r : List Int) : V := fun j => r.getD j 0
def latL (ls : List Ln) : List V := ls.map fun l => vr l.1
theorem lat_get {ls : List Ln} {i : Nat} (h : i < ls.length) : vr ls[i].1 ∈ latL ls := List.mem_map.2 ⟨ls[i], List.getElem_mem h, rfl⟩
theorem vr_sub (k : Int) {a b : List Int} (h : b.length ≤ a.length) : vr (subK k a b) = Hnf.sub (vr a) k (vr b) := by
 funext j; exact subK_getD k a b j h
theorem vr_neg (a : List Int) : vr (a.map fun z => -z) = Hnf.sub (fun _ => 0) 1 (vr a) := by
 funext j; have := col_lneg j (a, []); simp only [col, lneg] at this; simp only [vr, Hnf.sub]; omega
theorem lat_set {ls : List Ln} {i : Nat} {l : Ln} {v : V} (h : v ∈ latL (ls.set i l)) : v = vr l.1 ∨ v ∈ latL ls := by
 obtain ⟨x, hx, rfl⟩ := List.mem_map.1 h
 rcases List.mem_or_eq_of_mem_set hx with hx | rfl
 ·exact .inr (List.mem_map.2 ⟨x, hx, rfl⟩)
 ·exact .inl rfl
theorem Step.lat {d n m : Nat} {a b : List Ln} (h : Step d a b) (hd : Dim n m a) : (∀ v ∈ latL b, Span (latL a) v) ∧ (∀ v ∈ latL a, Span (latL b) v) := by
 cases h with
 | swap p q hp hq dp dq =>
  constructor
  ·intro v hv
   rcases lat_set hv with rfl | hv
   ·exact .mem (lat_get hp)
   ·rcases lat_set hv with rfl | hv
    ·exact .mem (lat_get hq)
    ·exact .mem hv
  ·intro v hv
   obtain ⟨l, hl, rfl⟩ := List.mem_map.1 hv
   obtain ⟨i, hi, rfl⟩ := List.getElem_of_mem hl
   by_cases e : i = p
   ·subst e
    have h1 : q < ((a.set i a[q]).set q a[i]).length := by simpa using hq
    have := lat_get h1
    rw [List.getElem_set_self] at this
    exact .mem this
   ·by_cases e2 : i = q
    ·subst e2
     have h1 : p < ((a.set p a[i]).set i a[p]).length := by simpa using hp
     have := lat_get h1
     rw [List.getElem_set_ne (by omega), List.getElem_set_self] at this
     exact .mem this
    ·have h1 : i < ((a.set p a[q]).set q a[p]).length := by simpa using hi
     have := lat_get h1
     rw [List.getElem_set_ne (by omega), List.getElem_set_ne (by omega)] at this
     exact .mem this
 | sub p q k hp hq hpq dp dq =>
  have hlen : a[q].1.length ≤ a[p].1.length := by rw [(hd.get hp).1, (hd.get hq).1]; exact Nat.le_refl _
  constructor
  ·intro v hv
   rcases lat_set hv with rfl | hv
   ·show Span _ (vr (subK k a[p].1 a[q].1))
    rw [vr_sub k hlen]
    exact .step k (.mem (lat_get hp)) (lat_get hq)
   ·exact .mem hv
  ·intro v hv
   obtain ⟨l, hl, rfl⟩ := List.mem_map.1 hv
   obtain ⟨i, hi, rfl⟩ := List.getElem_of_mem hl
   have hq' : vr a[q].1 ∈ latL (a.set p (lsub k a[p] a[q])) := by
    have h1 : q < (a.set p (lsub k a[p] a[q])).length := by simpa using hq
    have := lat_get h1
    rwa [List.getElem_set_ne hpq] at this
   by_cases e : i = p
   ·subst e
    have h1 : i < (a.set i (lsub k a[i] a[q])).length := by simpa using hi
    have := lat_get h1
    rw [List.getElem_set_self] at this
    have h2 := Span.step (-k) (.mem this) hq'
    have e : Hnf.sub (vr (lsub k a[i] a[q]).1) (-k) (vr a[q].1) = vr a[i].1 := by
     show Hnf.sub (vr (subK k a[i].1 a[q].1)) (-k) (vr a[q].1) = vr a[i].1
     rw [vr_sub k hlen]; funext j; simp only [Hnf.sub, Int.neg_mul]; omega
    rwa [e] at h2
   ·have h1 : i < (a.set p (lsub k a[p] a[q])).length := by simpa using hi
    have := lat_get h1
    rw [List.getElem_set_ne (Ne.symm e)] at this
    exact .mem this
 | neg p hp dp =>
  constructor
  ·intro v hv
   rcases lat_set hv with rfl | hv
   ·show Span _ (vr (a[p].1.map fun z => -z))
    rw [vr_neg]; exact .step 1 .zero (lat_get hp)
   ·exact .mem hv
  ·intro v hv
   obtain ⟨l, hl, rfl⟩ := List.mem_map.1 hv
   obtain ⟨i, hi, rfl⟩ := List.getElem_of_mem hl
   by_cases e : i = p
   ·subst e
    have h1 : i < (a.set i (lneg a[i])).length := by simpa using hi
    have := lat_get h1
    rw [List.getElem_set_self] at this
    have h2 := Span.step 1 .zero this
    have e : Hnf.sub (fun _ => 0) 1 (vr (lneg a[i]).1) = vr a[i].1 := by
     show Hnf.sub (fun _ => 0) 1 (vr (a[i].1.map fun z => -z)) = vr a[i].1
     rw [vr_neg]; funext j; simp only [Hnf.sub]; omega
    rwa [e] at h2
   ·have h1 : i < (a.set p (lneg a[p])).length := by simpa using hi
    have := lat_get h1
    rw [List.getElem_set_ne (Ne.symm e)] at this
    exact .mem this
theorem Ops.lat {d n m : Nat} {a b : List Ln} (h : Ops d a b) (hd : Dim n m a) : (∀ v ∈ latL b, Span (latL a) v) ∧ (∀ v ∈ latL a, Span (latL b) v) := by
 induction h with
 | refl => exact ⟨fun v hv => .mem hv, fun v hv => .mem hv⟩
 | step o s ih =>
  have hs := s.lat (hd.ops o)
  exact ⟨fun v hv => (hs.1 v hv).trans ih.1, fun v hv => (ih.2 v hv).trans hs.2⟩
abbrev Mx := List (List Int)
def latM (M : Mx) : List V := M.map vr
def Rect (n : Nat) (M : Mx) : Prop := ∀ r ∈ M, r.length = n
def eM (F : Mx) (i j : Nat) : Int := (F.getD i []).getD j 0
structure IsH (n : Nat) (ps : List Nat) (F : Mx) : Prop where
 rect : Rect n F
 len : ps.length = F.length
 lt : ∀ i, i < F.length → ps.getD i 0 < n
 inc : ∀ i k, i < k → k < F.length → ps.getD i 0 < ps.getD k 0
 left : ∀ i, i < F.length → ∀ j, j < ps.getD i 0 → eM F i j = 0
 pos : ∀ i, i < F.length → 0 < eM F i (ps.getD i 0)
 red : ∀ i k, i < k → k < F.length → 0 ≤ eM F i (ps.getD k 0) ∧ eM F i (ps.getD k 0) < eM F k (ps.getD k 0)
def wps (ps : List Nat) (F : Mx) : List (Nat × V) := (ps.zip F).map fun x => (x.1, vr x.2)
theorem wps_rows {ps : List Nat} {F : Mx} (h : ps.length = F.length) : Hnf.rows (wps ps F) = latM F := by
 unfold Hnf.rows wps latM
 rw [List.map_map]
 show List.map (fun x => vr x.2) (ps.zip F) = _
 rw [show (fun x : Nat × List Int => vr x.2) = vr ∘ Prod.snd from rfl, ← List.map_map, List.map_snd_zip (by omega)]
theorem ech_wps : ∀ (ps : List Nat) (F : Mx) (b : Nat), ps.length = F.length → (∀ i, i < F.length → b ≤ ps.getD i 0) → (∀ i k, i < k → k < F.length → ps.getD i 0 < ps.getD k 0) →
  (∀ i, i < F.length → ∀ j, j < ps.getD i 0 → eM F i j = 0) → (∀ i, i < F.length → 0 < eM F i (ps.getD i 0)) → Ech b (wps ps F)
 | [], [], _, _, _, _, _, _ => trivial
 | [], _ :: _, _, h, _, _, _, _ => by simp at h
 | _ :: _, [], _, h, _, _, _, _ => by simp at h
 | p :: ps, f :: F, b, hl, hb, hi, hz, hp => by
  refine ⟨hb 0 (by simp), hz 0 (by simp), hp 0 (by simp), ?_⟩
  refine ech_wps ps F (p + 1) (by simpa using hl) (fun i h => ?_) (fun i k hik hk => ?_) (fun i h => ?_) (fun i h => ?_)
  ·exact hi 0 (i + 1) (by omega) (by simpa using h)
  ·exact hi (i + 1) (k + 1) (by omega) (by simpa using hk)
  ·exact hz (i + 1) (by simpa using h)
  ·exact hp (i + 1) (by simpa using h)
theorem red_wps : ∀ (ps : List Nat) (F : Mx), ps.length = F.length → (∀ i k, i < k → k < F.length → 0 ≤ eM F i (ps.getD k 0) ∧ eM F i (ps.getD k 0) < eM F k (ps.getD k 0)) → Red (wps ps F)
 | [], [], _, _ => trivial
 | [], _ :: _, h, _ => by simp at h
 | _ :: _, [], h, _ => by simp at h
 | p :: ps, f :: F, hl, hr => by
  refine ⟨fun g hg => ?_, red_wps ps F (by simpa using hl) fun i k hik hk => hr (i + 1) (k + 1) (by omega) (by simpa using hk)⟩
  obtain ⟨x, hx, rfl⟩ := List.mem_map.1 hg
  obtain ⟨i, hi, hxe⟩ := List.getElem_of_mem hx
  have hi' : i < ps.length ∧ i < F.length := by simp at hi; omega
  have := hr 0 (i + 1) (by omega) (by simpa using hi'.2)
  obtain rfl : x = (ps[i]'hi'.1, F[i]'hi'.2) := by rw [← hxe]; exact List.getElem_zip
  simp only [eM, List.getD_cons_succ, List.getD_cons_zero] at this
  rw [getD_get hi'.1, getD_get hi'.2] at this
  exact this
theorem IsH.ech {n : Nat} {ps : List Nat} {F : Mx} (h : IsH n ps F) : Ech 0 (wps ps F) := ech_wps ps F 0 h.len (fun _ _ => Nat.zero_le _) h.inc h.left h.pos
theorem IsH.redu {n : Nat} {ps : List Nat} {F : Mx} (h : IsH n ps F) : Red (wps ps F) := red_wps ps F h.len h.red
theorem vr_inj {n : Nat} {a b : List Int} (ha : a.length = n) (hb : b.length = n) (h : vr a = vr b) : a = b := by
 refine List.ext_getElem (by omega) fun i h1 h2 => ?_
 have := congrFun h i
 simpa only [vr, List.getD_eq_getElem?_getD, List.getElem?_eq_getElem h1, List.getElem?_eq_getElem h2, Option.getD_some] using this
theorem IsH.unique {n : Nat} {ps qs : List Nat} {F G : Mx} (hF : IsH n ps F) (hG : IsH n qs G) (h1 : ∀ v ∈ latM F, Span (latM G) v) (h2 : ∀ v ∈ latM G, Span (latM F) v) : F = G ∧ ps = qs := by
 have e := Hnf.unique hF.ech hF.redu hG.ech hG.redu (by rw [wps_rows hF.len, wps_rows hG.len]; exact h1) (by rw [wps_rows hF.len, wps_rows hG.len]; exact h2)
 have e1 : ps = qs := by
  have := congrArg (List.map Prod.fst) e
  unfold wps at this
  rw [List.map_map, List.map_map] at this
  rw [show (Prod.fst ∘ fun x : Nat × List Int => (x.1, vr x.2)) = Prod.fst from rfl, List.map_fst_zip (by have := hF.len; omega), List.map_fst_zip (by have := hG.len; omega)] at this
  exact this
 have e2 : latM F = latM G := by rw [← wps_rows hF.len, ← wps_rows hG.len, e]
 refine ⟨?_, e1⟩
 have hl : F.length = G.length := by have := congrArg List.length e2; simpa [latM] using this
 refine List.ext_getElem hl fun i h3 h4 => ?_
 refine vr_inj (hF.rect _ (List.getElem_mem h3)) (hG.rect _ (List.getElem_mem h4)) ?_
 have := congrArg (fun l => l[i]?) e2
 simpa [latM, h3, h4] using this
def fRows (d : Nat) (ls : List Ln) : Mx := (ls.take d).map (·.1)
theorem eM_fRows {d : Nat} {ls : List Ln} {i : Nat} (h : i < d) (j : Nat) (hd : d ≤ ls.length) : eM (fRows d ls) i j = en ls i j := by
 unfold eM fRows en col
 have hi : i < ls.length := by omega
 simp only [List.getD_eq_getElem?_getD, List.getElem?_map, List.getElem?_take, if_pos h, List.getElem?_eq_getElem hi]
 rfl
theorem FormTo.isH {n d m : Nat} {ps : List Nat} {ls : List Ln} (h : FormTo n d ps ls) (hd : Dim n m ls) : IsH n ps (fRows d ls) := by
 have hl : (fRows d ls).length = d := by unfold fRows; have := h.le; simp; omega
 refine ⟨fun r hr => ?_, by rw [hl, h.len], fun i hi => ?_, fun i k hik hk => ?_, fun i hi j hj => ?_, fun i hi => ?_, fun i k hik hk => ?_⟩
 ·obtain ⟨l, hl', rfl⟩ := List.mem_map.1 hr; exact (hd l (List.mem_of_mem_take hl')).1
 ·rw [hl] at hi; exact h.lt i hi
 ·rw [hl] at hk; exact h.inc i k hik hk
 ·rw [hl] at hi; rw [eM_fRows hi _ h.le]; exact h.left i hi j hj
 ·rw [hl] at hi; rw [eM_fRows hi _ h.le]; exact h.pos i hi
 ·rw [hl] at hk; rw [eM_fRows (by omega) _ h.le, eM_fRows hk _ h.le]; exact h.red i k hik hk
theorem FormTo.lat {n d m : Nat} {ps : List Nat} {ls : List Ln} (h : FormTo n d ps ls) (hd : Dim n m ls) : (∀ v ∈ latM (fRows d ls), v ∈ latL ls) ∧ (∀ v ∈ latL ls, Span (latM (fRows d ls)) v) := by
 constructor
 ·intro v hv
  obtain ⟨r, hr, rfl⟩ := List.mem_map.1 hv
  obtain ⟨l, hl, rfl⟩ := List.mem_map.1 hr
  exact List.mem_map.2 ⟨l, List.mem_of_mem_take hl, rfl⟩
 ·intro v hv
  obtain ⟨l, hl, rfl⟩ := List.mem_map.1 hv
  obtain ⟨i, hi, rfl⟩ := List.getElem_of_mem hl
  rcases Nat.lt_or_ge i d with hid | hid
  ·refine .mem (List.mem_map.2 ⟨ls[i].1, List.mem_map.2 ⟨ls[i], ?_, rfl⟩, rfl⟩)
   have : i < (ls.take d).length := by simp; omega
   have h2 := List.getElem_mem this
   rwa [List.getElem_take] at h2
  ·have e : vr ls[i].1 = fun _ => 0 := by
    funext j
    rcases Nat.lt_or_ge j n with hj | hj
    ·have := h.below i hid hi j hj
     unfold en col at this
     rwa [getD_get hi] at this
    ·show ls[i].1.getD j 0 = 0
     rw [List.getD_eq_getElem?_getD, List.getElem?_eq_none (by rw [(hd.get hi).1]; exact hj)]; rfl
   rw [e]; exact .zero
def HnfOf (n : Nat) (M F : Mx) : Prop := (∃ ps, IsH n ps F) ∧ (∀ v ∈ latM F, Span (latM M) v) ∧ (∀ v ∈ latM M, Span (latM F) v)
theorem HnfOf.unique {n : Nat} {M M' F F' : Mx} (h : HnfOf n M F) (h' : HnfOf n M' F') (h1 : ∀ v ∈ latM M, Span (latM M') v) (h2 : ∀ v ∈ latM M', Span (latM M) v) : F = F' := by
 obtain ⟨⟨ps, hF⟩, a1, a2⟩ := h
 obtain ⟨⟨qs, hG⟩, b1, b2⟩ := h'
 exact (hF.unique hG (fun v hv => ((a1 v hv).trans h1).trans b2) (fun v hv => ((b1 v hv).trans h2).trans a2)).1
def unitR (m i : Nat) : List Int := (List.replicate m 0).set i 1
def lines0 (M : Mx) : List Ln := M.mapIdx fun i r => (r, unitR M.length i)
@[simp] theorem lines0_length (M : Mx) : (lines0 M).length = M.length := by simp [lines0]
end Go.Proofs.YtedlgnoiojcjaaaGreatDoor
namespace Go.Proofs.YtedlgnoiojcjaaaGreatDoor
open Go.RowKit Go.Sort
theorem grown_frozen_cell {w w' : World} {g b o : Nat} {v : Value} (h : w.grownBy w' (some g)) (hne : b ≠ g) (hc : w.cell? ⟨b, o, none⟩ = some v) : w'.cell? ⟨b, o, none⟩ = some v := by
 have hb : b < w.heap.size := World.block_lt_of_cell? _ _ hc
 have := h.block b hb (by simpa using hne)
 unfold World.cell? at *
 rw [this]; exact hc
def negTo (j : Nat) (l : List Int) : List Int := (l.take j).map (fun z => -z) ++ l.drop j
theorem negTo_zero (l : List Int) : negTo 0 l = l := by simp [negTo]
theorem negTo_all (l : List Int) : negTo l.length l = l.map (fun z => -z) := by simp [negTo]
@[simp] theorem negTo_length (j : Nat) (l : List Int) : (negTo j l).length = l.length := by simp [negTo]; omega
theorem negTo_get {j : Nat} {l : List Int} (h : j < l.length) : (negTo j l)[j]'(by simpa using h) = l[j] := by
 unfold negTo
 rw [List.getElem_append_right (by simp; omega)]
 simp [Nat.min_eq_left (Nat.le_of_lt h)]
theorem negTo_step {j : Nat} {l : List Int} (h : j < l.length) : negTo (j + 1) l = (negTo j l).set j (-l[j]) := by
 unfold negTo
 rw [List.set_append_right _ _ (by simp; omega)]
 rw [List.take_add_one, List.map_append, List.append_assoc]
 congr 1
 rw [List.getElem?_eq_getElem h]
 simp only [Option.toList_some, List.map_cons, List.map_nil, List.length_map, List.length_take, Nat.min_eq_left (Nat.le_of_lt h), Nat.sub_self]
 conv => rhs; rw [List.drop_eq_getElem_cons h]
 rfl
structure Ad where
 gx : Nat
 cx : Nat
 gy : Nat
 cy : Nat
 deriving Inhabited
structure Lns (B : Nat) (w : World) (g : Nat) (ad : List Ad) (ls : List Ln) : Prop where
 len : ad.length = ls.length
 base : B ≤ g
 lt : g < w.heap.size
 fz : ∀ o, w.frozen? ⟨g, o, none⟩ = false
 hx : ∀ i (h : i < ls.length) (h' : i < ad.length), w.cell? ⟨g, 2 * i, none⟩ = some (slv ad[i].gx ls[i].1.length ad[i].cx)
 hy : ∀ i (h : i < ls.length) (h' : i < ad.length), w.cell? ⟨g, 2 * i + 1, none⟩ = some (slv ad[i].gy ls[i].2.length ad[i].cy)
 x : ∀ i (h : i < ls.length) (h' : i < ad.length), OwnV 61 B w ad[i].gx ad[i].cx (ss ls[i].1)
 y : ∀ i (h : i < ls.length) (h' : i < ad.length), OwnV 61 B w ad[i].gy ad[i].cy (ss ls[i].2)
 own : ∀ i (h : i < ad.length), ad[i].gx ≠ g ∧ ad[i].gy ≠ g ∧ ad[i].gx ≠ ad[i].gy
 dis : ∀ i j (hi : i < ad.length) (hj : j < ad.length), i ≠ j → ad[i].gx ≠ ad[j].gx ∧ ad[i].gx ≠ ad[j].gy ∧ ad[i].gy ≠ ad[j].gx ∧ ad[i].gy ≠ ad[j].gy
theorem Lns.ext {B : Nat} {w w' : World} {g : Nat} {ad : List Ad} {ls : List Ln} (h : Lns B w g ad ls) (he : Ext w w') : Lns B w' g ad ls where
 len := h.len
 base := h.base
 lt := Nat.lt_of_lt_of_le h.lt he.size
 fz := fun o => by rw [he.frozen h.lt]; exact h.fz o
 hx := fun i a b => he.cell (h.hx i a b)
 hy := fun i a b => he.cell (h.hy i a b)
 x := fun i a b => (h.x i a b).ext he
 y := fun i a b => (h.y i a b).ext he
 own := h.own
 dis := h.dis
theorem Chg.frozen {R : Nat → Prop} {a b : World} (h : Chg R a b) {g o : Nat} (hg : ¬ R g) (hl : g < a.heap.size) : b.frozen? ⟨g, o, none⟩ = a.frozen? ⟨g, o, none⟩ := by
 have := h.block g hl hg
 unfold World.frozen?
 rw [this]
theorem Lns.wrote {B : Nat} {w w' : World} {g : Nat} {ad : List Ad} {ls : List Ln} (h : Lns B w g ad ls) {i : Nat} (hi : i < ad.length) (hi' : i < ls.length) {l : Ln} (e1 : l.1.length = ls[i].1.length) (e2 : l.2.length = ls[i].2.length)
  (hX : OwnV 61 B w' ad[i].gx ad[i].cx (ss l.1)) (hY : OwnV 61 B w' ad[i].gy ad[i].cy (ss l.2)) (hC : Chg (fun k => k = ad[i].gx ∨ k = ad[i].gy) w w') : Lns B w' g ad (ls.set i l) := by
 have hown := h.own i hi
 have hg : ¬ (g = ad[i].gx ∨ g = ad[i].gy) := by rintro (e | e); exact hown.1 e.symm; exact hown.2.1 e.symm
 refine ⟨by rw [List.length_set]; exact h.len, h.base, Nat.lt_of_lt_of_le h.lt hC.size, fun o => by rw [hC.frozen hg h.lt]; exact h.fz o, ?_, ?_, ?_, ?_, h.own, h.dis⟩
 ·intro j hj hj'
  rw [List.length_set] at hj
  have := hC.cell hg (h.hx j hj hj')
  by_cases hij : i = j
  ·subst hij; simp only [List.getElem_set_self]; rw [e1]; exact this
  ·simp only [List.getElem_set_ne hij]; exact this
 ·intro j hj hj'
  rw [List.length_set] at hj
  have := hC.cell hg (h.hy j hj hj')
  by_cases hij : i = j
  ·subst hij; simp only [List.getElem_set_self]; rw [e2]; exact this
  ·simp only [List.getElem_set_ne hij]; exact this
 ·intro j hj hj'
  rw [List.length_set] at hj
  by_cases hij : i = j
  ·subst hij; simp only [List.getElem_set_self]; exact hX
  ·simp only [List.getElem_set_ne hij]
   have d := h.dis j i hj' hi (Ne.symm hij)
   exact hC.own (by rintro (e | e); exact d.1 e; exact d.2.1 e) (h.x j hj hj')
 ·intro j hj hj'
  rw [List.length_set] at hj
  by_cases hij : i = j
  ·subst hij; simp only [List.getElem_set_self]; exact hY
  ·simp only [List.getElem_set_ne hij]
   have d := h.dis j i hj' hi (Ne.symm hij)
   exact hC.own (by rintro (e | e); exact d.2.2.1 e; exact d.2.2.2 e) (h.y j hj hj')
theorem nd_lt2 {z : Int} {E : Nat} (h : z.natAbs < 2 ^ E) : nd z ≤ E + 1 := by
 refine nDigits_le (Nat.lt_of_lt_of_le h ?_) (by omega)
 exact Nat.le_trans (Nat.pow_le_pow_left (by omega) E) (Nat.pow_le_pow_right (by omega) (by omega))
theorem Lns.ln {B : Nat} {w : World} {g n m d i o c : Nat} {ad : List Ad} {ls : List Ln} (h : Lns B w g ad ls) (hd : Dim n m ls) (hi : d + i < ls.length) (ho : o = 2 * d + i * 2) (hc : c < n) :
  ∃ (gx cx gy cy : Nat), ad[d + i]? = some ⟨gx, cx, gy, cy⟩ ∧ w.cell? ⟨g, o, none⟩ = some (slv gx n cx) ∧ w.cell? ⟨g, o + 1, none⟩ = some (slv gy m cy)
   ∧ w.cell? ⟨gx, c, none⟩ = some (I (cols c d ls i)) ∧ OwnV 61 B w gx cx (ss (ls.getD (d + i) default).1) ∧ OwnV 61 B w gy cy (ss (ls.getD (d + i) default).2) ∧ gx ≠ g ∧ gy ≠ g ∧ gx ≠ gy := by
 have hi' : d + i < ad.length := by rw [h.len]; exact hi
 have hh := hd.get hi
 have e := getD_get hi default
 have hX := h.x (d + i) hi hi'
 have ho' : o = 2 * (d + i) := by omega
 subst ho'
 refine ⟨ad[d + i].gx, ad[d + i].cx, ad[d + i].gy, ad[d + i].cy, by rw [List.getElem?_eq_getElem hi'], ?_, ?_, ?_, ?_, ?_, (h.own _ hi').1, (h.own _ hi').2.1, (h.own _ hi').2.2⟩
 ·have := h.hx (d + i) hi hi'; rwa [hh.1] at this
 ·have := h.hy (d + i) hi hi'; rwa [hh.2] at this
 ·rw [hX.cell (j := c) (by simp; omega)]
  unfold cols col
  rw [e, getD_get (by omega)]
  simp [ss]
 ·rw [e]; exact hX
 ·rw [e]; exact h.y (d + i) hi hi'
def swpA (ad : List Ad) (i j : Nat) : List Ad := (ad.set i (ad.getD j default)).set j (ad.getD i default)
@[simp] theorem swpA_length (ad : List Ad) (i j : Nat) : (swpA ad i j).length = ad.length := by simp [swpA]
def sg (i j t : Nat) : Nat := if t = j then i else if t = i then j else t
theorem sg_lt {i j t n : Nat} (hi : i < n) (hj : j < n) (ht : t < n) : sg i j t < n := by unfold sg; split <;> (try split) <;> omega
theorem sg_inj {i j t u : Nat} (h : sg i j t = sg i j u) : t = u := by unfold sg at h; split at h <;> split at h <;> (try split at h) <;> (try split at h) <;> omega
theorem swp_get {ls : List Ln} {i j : Nat} (hi : i < ls.length) (hj : j < ls.length) {t : Nat} (ht : t < (swp ls i j).length) : (swp ls i j)[t] = ls[sg i j t]'(sg_lt hi hj (by simpa using ht)) := by
 have := swp_getD ls hi hj t
 rw [getD_get ht] at this
 rw [this]
 unfold sg
 split
 ·rw [getD_get hi]
 ·split
  ·rw [getD_get hj]
  ·rw [getD_get (by simpa using ht)]
theorem swpA_get {ad : List Ad} {i j : Nat} (hi : i < ad.length) (hj : j < ad.length) {t : Nat} (ht : t < (swpA ad i j).length) : (swpA ad i j)[t] = ad[sg i j t]'(sg_lt hi hj (by simpa using ht)) := by
 have : (swpA ad i j).getD t default = if t = j then ad.getD i default else if t = i then ad.getD j default else ad.getD t default := by
  unfold swpA
  rw [getD_set _ _ _ _ _ (by simpa using hj), getD_set _ _ _ _ _ hi]
 rw [getD_get ht] at this
 rw [this]
 unfold sg
 split
 ·rw [getD_get hi]
 ·split
  ·rw [getD_get hj]
  ·rw [getD_get (by simpa using ht)]
theorem Lns.swapped {B : Nat} {w w' : World} {g : Nat} {ad : List Ad} {ls : List Ln} (h : Lns B w g ad ls) {i j : Nat} (hi : i < ls.length) (hj : j < ls.length) (hG : w.grownBy w' (some g)) (hf : ∀ o, w'.frozen? ⟨g, o, none⟩ = false)
  (hc : ∀ t, t < ls.length → w'.cell? ⟨g, 2 * t, none⟩ = w.cell? ⟨g, 2 * sg i j t, none⟩ ∧ w'.cell? ⟨g, 2 * t + 1, none⟩ = w.cell? ⟨g, 2 * sg i j t + 1, none⟩) : Lns B w' g (swpA ad i j) (swp ls i j) := by
 have hai : i < ad.length := by rw [h.len]; exact hi
 have haj : j < ad.length := by rw [h.len]; exact hj
 have hs : ∀ t, t < ls.length → sg i j t < ls.length := fun t ht => sg_lt hi hj ht
 have hsa : ∀ t, t < ls.length → sg i j t < ad.length := fun t ht => by rw [h.len]; exact hs t ht
 refine ⟨by simp [h.len], h.base, Nat.lt_of_lt_of_le h.lt hG.size, hf, fun t a b => ?_, fun t a b => ?_, fun t a b => ?_, fun t a b => ?_, fun t a => ?_, fun t u a b htu => ?_⟩
 ·have ht : t < ls.length := by simpa using a
  rw [(hc t ht).1, swpA_get hai haj b, swp_get hi hj a]; exact h.hx _ (hs t ht) (hsa t ht)
 ·have ht : t < ls.length := by simpa using a
  rw [(hc t ht).2, swpA_get hai haj b, swp_get hi hj a]; exact h.hy _ (hs t ht) (hsa t ht)
 ·have ht : t < ls.length := by simpa using a
  rw [swpA_get hai haj b, swp_get hi hj a]; exact (h.x _ (hs t ht) (hsa t ht)).other hG (h.own _ (hsa t ht)).1
 ·have ht : t < ls.length := by simpa using a
  rw [swpA_get hai haj b, swp_get hi hj a]; exact (h.y _ (hs t ht) (hsa t ht)).other hG (h.own _ (hsa t ht)).2.1
 ·have ht : t < ls.length := by rw [← h.len]; simpa using a
  rw [swpA_get hai haj a]; exact h.own _ (hsa t ht)
 ·have ht : t < ls.length := by rw [← h.len]; simpa using a
  have hu : u < ls.length := by rw [← h.len]; simpa using b
  rw [swpA_get hai haj a, swpA_get hai haj b]
  exact h.dis _ _ (hsa t ht) (hsa u hu) (fun e => htu (sg_inj e))
theorem less_big {E : Nat} {q : Int} {a b : List Int} (ha : ∀ z ∈ a, z.natAbs < 2 ^ E) (hb : ∀ z ∈ b, z.natAbs < 2 ^ E) (hq : q.natAbs < 2 ^ E) (hE : 2 * E + 2 < LIM) :
  ∀ (i : Nat) (h : i < b.length) (h' : i < a.length), nd a[i] < LIM ∧ nd (q * b[i]) < LIM ∧ nd q + nd b[i] ≤ LIM := by
 intro i h h'
 have h1 := nd_lt2 (ha _ (List.getElem_mem h'))
 have h2 := nd_lt2 (hb _ (List.getElem_mem h))
 have h3 := nd_lt2 hq
 have h4 := nd_mul q b[i]
 omega
def RowR (w : World) (v : Value) (r : List Int) : Prop := ∃ sa gb go cap, v = .slice sa r.length cap ∧ r.length ≤ cap ∧ Sl w sa gb go (is r)
def MatR (w : World) (v : Value) (M : Mx) : Prop := ∃ sa gb go cap vs, v = .slice sa M.length cap ∧ M.length ≤ cap ∧ vs.length = M.length ∧ Sl w sa gb go vs ∧ ∀ i (h : i < M.length) (h' : i < vs.length), RowR w vs[i] M[i]
theorem RowR.ext {w w' : World} {v : Value} {r : List Int} (h : RowR w v r) (he : Ext w w') : RowR w' v r := by
 obtain ⟨sa, gb, go, cap, e, hc, hs⟩ := h; exact ⟨sa, gb, go, cap, e, hc, hs.ext he⟩
theorem MatR.ext {w w' : World} {v : Value} {M : Mx} (h : MatR w v M) (he : Ext w w') : MatR w' v M := by
 obtain ⟨sa, gb, go, cap, vs, e, hc, hl, hs, hr⟩ := h; exact ⟨sa, gb, go, cap, vs, e, hc, hl, hs.ext he, fun i a b => (hr i a b).ext he⟩
def I64 (z : Int) : Prop := -9223372036854775808 ≤ z ∧ z ≤ 9223372036854775807
theorem MatR.row {w : World} {sa : Option Addr} {gb go : Nat} {vs : List Value} {M : Mx} (hS : Sl w sa gb go vs) (hl : vs.length = M.length) (hr : ∀ i (h : i < M.length) (h' : i < vs.length), RowR w vs[i] M[i]) {i : Nat} (hi : i < M.length) :
  ∃ sa' gb' go' cap', w.cell? ⟨gb, go + i, none⟩ = some (.slice sa' M[i].length cap') ∧ M[i].length ≤ cap' ∧ Sl w sa' gb' go' (is M[i]) := by
 have hi' : i < vs.length := by omega
 obtain ⟨sa', gb', go', cap', e, hc, hs⟩ := hr i hi hi'
 exact ⟨sa', gb', go', cap', by rw [hS.cell i _ (List.getElem?_eq_getElem hi'), e], hc, hs⟩
def xv (n g cap : Nat) : Value := if n = 0 then .slice none 0 0 else slv g n cap
theorem xv_zero (g cap : Nat) : xv 0 g cap = .slice none 0 0 := rfl
theorem xv_pos {n : Nat} (h : 0 < n) (g cap : Nat) : xv n g cap = slv g n cap := by unfold xv; rw [if_neg (by omega)]
theorem ownsRow_ext {w w' : World} {base : Nat} {e : TypeId} {size n : Nat} {v : Value} {xs : List Value} (h : w.ownsRow base e size v n xs) (he : Ext w w') : w'.ownsRow base e size v n xs :=
 World.ownsRow.kept h (grown_ext he none) (by by_cases hv : v.ownBlock = none; exact .inl hv; exact .inr hv)
end Go.Proofs.YtedlgnoiojcjaaaGreatDoor
namespace Go.Proofs.YtedlgnoiojcjaaaGreatDoor
def IxR (p : Nat → Bool) (n : Nat) (k : Int) : Prop := (k = -1 ∧ ∀ i, i < n → p i = false) ∨ ∃ i : Nat, i < n ∧ k = (i : Int) ∧ p i = true ∧ ∀ j, j < i → p j = false
theorem IxR_ex (p : Nat → Bool) : ∀ n, ∃ k, IxR p n k
 | 0 => ⟨-1, .inl ⟨rfl, fun i h => by omega⟩⟩
 | n + 1 => by
  obtain ⟨k, h | ⟨i, hi, e, hp, hj⟩⟩ := IxR_ex p n
  ·cases hn : p n
   ·exact ⟨-1, .inl ⟨rfl, fun i hi => by
     by_cases e : i = n
     ·subst e; exact hn
     ·exact h.2 i (by omega)⟩⟩
   ·exact ⟨n, .inr ⟨n, by omega, rfl, hn, h.2⟩⟩
  ·exact ⟨k, .inr ⟨i, by omega, e, hp, hj⟩⟩
theorem IxR_no {p : Nat → Bool} {n : Nat} {k : Int} (h : IxR p n k) (hp : ∀ i, i < n → p i = false) : k = -1 := by
 rcases h with h | ⟨i, hi, _, hpi, _⟩
 ·exact h.1
 ·rw [hp i hi] at hpi; cases hpi
theorem IxR_at {p : Nat → Bool} {n i : Nat} {k : Int} (h : IxR p n k) (hi : i < n) (hp : p i = true) (hj : ∀ j, j < i → p j = false) : k = i := by
 rcases h with h | ⟨t, ht, e, hpt, hjt⟩
 ·rw [h.2 i hi] at hp; cases hp
 ·rcases Nat.lt_trichotomy i t with h | h | h
  ·rw [hjt i h] at hp; cases hp
  ·rw [e, h]
  ·rw [hj t h] at hpt; cases hpt
def anyB (p : Nat → Bool) (n : Nat) : Bool := (List.range n).any p
theorem anyB_iff {p : Nat → Bool} {n : Nat} : anyB p n = true ↔ ∃ i, i < n ∧ p i = true := by simp [anyB]
theorem anyB_no {p : Nat → Bool} {n : Nat} (h : ∀ i, i < n → p i = false) : anyB p n = false := by
 cases hb : anyB p n
 ·rfl
 ·obtain ⟨i, hi, hp⟩ := anyB_iff.1 hb; rw [h i hi] at hp; cases hp
theorem IxR_ge {p : Nat → Bool} {n : Nat} {k : Int} (h : IxR p n k) : decide (0 ≤ k) = anyB p n := by
 rcases h with ⟨rfl, h⟩ | ⟨i, hi, rfl, hp, _⟩
 ·rw [anyB_no h]; rfl
 ·rw [anyB_iff.2 ⟨i, hi, hp⟩]; exact decide_eq_true (by omega)
end Go.Proofs.YtedlgnoiojcjaaaGreatDoor
