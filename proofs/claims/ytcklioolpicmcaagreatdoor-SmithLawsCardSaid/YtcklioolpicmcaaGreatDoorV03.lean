/- Part 3 of the proof of the claim: contracts of the functions that it reaches, and plain laws; no condition. -/
import Derived.Test.YtcklioolpicmcaaGreatDoorV01
import Derived.Test.YtcklioolpicmcaaGreatDoorV02
/- Plain: row operations keep the lattice; the echelon form is the Hermite normal form, and there is one alone. -/
namespace Go.Proofs.YtcklioolpicmcaaGreatDoor
open Hnf (V Span Ech Red)
/-- A row as a function of the column. -/
def vr (r : List Int) : V := fun j => r.getD j 0
def latL (ls : List Ln) : List V := ls.map fun l => vr l.1
theorem lat_get {ls : List Ln} {i : Nat} (h : i < ls.length) : vr ls[i].1 ∈ latL ls := List.mem_map.2 ⟨ls[i], List.getElem_mem h, rfl⟩
theorem vr_sub (k : Int) {a b : List Int} (h : b.length ≤ a.length) : vr (subK k a b) = Hnf.sub (vr a) k (vr b) := by
  funext j; exact subK_getD k a b j h
theorem vr_neg (a : List Int) : vr (a.map fun z => -z) = Hnf.sub (fun _ => 0) 1 (vr a) := by
  funext j; have := col_lneg j (a, []); simp only [col, lneg] at this; simp only [vr, Hnf.sub]; omega
theorem lat_set {ls : List Ln} {i : Nat} {l : Ln} {v : V} (h : v ∈ latL (ls.set i l)) : v = vr l.1 ∨ v ∈ latL ls := by
  obtain ⟨x, hx, rfl⟩ := List.mem_map.1 h
  rcases List.mem_or_eq_of_mem_set hx with hx | rfl
  · exact .inr (List.mem_map.2 ⟨x, hx, rfl⟩)
  · exact .inl rfl
theorem Step.lat {d n m : Nat} {a b : List Ln} (h : Step d a b) (hd : Dim n m a) : (∀ v ∈ latL b, Span (latL a) v) ∧ (∀ v ∈ latL a, Span (latL b) v) := by
  cases h with
  | swap p q hp hq dp dq =>
    constructor
    · intro v hv
      rcases lat_set hv with rfl | hv
      · exact .mem (lat_get hp)
      · rcases lat_set hv with rfl | hv
        · exact .mem (lat_get hq)
        · exact .mem hv
    · intro v hv
      obtain ⟨l, hl, rfl⟩ := List.mem_map.1 hv
      obtain ⟨i, hi, rfl⟩ := List.getElem_of_mem hl
      by_cases e : i = p
      · subst e
        have h1 : q < ((a.set i a[q]).set q a[i]).length := by simpa using hq
        have := lat_get h1
        rw [List.getElem_set_self] at this
        exact .mem this
      · by_cases e2 : i = q
        · subst e2
          have h1 : p < ((a.set p a[i]).set i a[p]).length := by simpa using hp
          have := lat_get h1
          rw [List.getElem_set_ne (by omega), List.getElem_set_self] at this
          exact .mem this
        · have h1 : i < ((a.set p a[q]).set q a[p]).length := by simpa using hi
          have := lat_get h1
          rw [List.getElem_set_ne (by omega), List.getElem_set_ne (by omega)] at this
          exact .mem this
  | sub p q k hp hq hpq dp dq =>
    have hlen : a[q].1.length ≤ a[p].1.length := by rw [(hd.get hp).1, (hd.get hq).1]; exact Nat.le_refl _
    constructor
    · intro v hv
      rcases lat_set hv with rfl | hv
      · show Span _ (vr (subK k a[p].1 a[q].1))
        rw [vr_sub k hlen]
        exact .step k (.mem (lat_get hp)) (lat_get hq)
      · exact .mem hv
    · intro v hv
      obtain ⟨l, hl, rfl⟩ := List.mem_map.1 hv
      obtain ⟨i, hi, rfl⟩ := List.getElem_of_mem hl
      have hq' : vr a[q].1 ∈ latL (a.set p (lsub k a[p] a[q])) := by
        have h1 : q < (a.set p (lsub k a[p] a[q])).length := by simpa using hq
        have := lat_get h1
        rwa [List.getElem_set_ne hpq] at this
      by_cases e : i = p
      · subst e
        have h1 : i < (a.set i (lsub k a[i] a[q])).length := by simpa using hi
        have := lat_get h1
        rw [List.getElem_set_self] at this
        have h2 := Span.step (-k) (.mem this) hq'
        have e : Hnf.sub (vr (lsub k a[i] a[q]).1) (-k) (vr a[q].1) = vr a[i].1 := by
          show Hnf.sub (vr (subK k a[i].1 a[q].1)) (-k) (vr a[q].1) = vr a[i].1
          rw [vr_sub k hlen]; funext j; simp only [Hnf.sub, Int.neg_mul]; omega
        rwa [e] at h2
      · have h1 : i < (a.set p (lsub k a[p] a[q])).length := by simpa using hi
        have := lat_get h1
        rw [List.getElem_set_ne (Ne.symm e)] at this
        exact .mem this
  | neg p hp dp =>
    constructor
    · intro v hv
      rcases lat_set hv with rfl | hv
      · show Span _ (vr (a[p].1.map fun z => -z))
        rw [vr_neg]; exact .step 1 .zero (lat_get hp)
      · exact .mem hv
    · intro v hv
      obtain ⟨l, hl, rfl⟩ := List.mem_map.1 hv
      obtain ⟨i, hi, rfl⟩ := List.getElem_of_mem hl
      by_cases e : i = p
      · subst e
        have h1 : i < (a.set i (lneg a[i])).length := by simpa using hi
        have := lat_get h1
        rw [List.getElem_set_self] at this
        have h2 := Span.step 1 .zero this
        have e : Hnf.sub (fun _ => 0) 1 (vr (lneg a[i]).1) = vr a[i].1 := by
          show Hnf.sub (fun _ => 0) 1 (vr (a[i].1.map fun z => -z)) = vr a[i].1
          rw [vr_neg]; funext j; simp only [Hnf.sub]; omega
        rwa [e] at h2
      · have h1 : i < (a.set p (lneg a[p])).length := by simpa using hi
        have := lat_get h1
        rw [List.getElem_set_ne (Ne.symm e)] at this
        exact .mem this
theorem Ops.lat {d n m : Nat} {a b : List Ln} (h : Ops d a b) (hd : Dim n m a) : (∀ v ∈ latL b, Span (latL a) v) ∧ (∀ v ∈ latL a, Span (latL b) v) := by
  induction h with
  | refl => exact ⟨fun v hv => .mem hv, fun v hv => .mem hv⟩
  | step o s ih =>
    have hs := s.lat (hd.ops o)
    exact ⟨fun v hv => (hs.1 v hv).trans ih.1, fun v hv => (ih.2 v hv).trans hs.2⟩
/-- Matrices: lists of rows. -/
abbrev Mx := List (List Int)
def latM (M : Mx) : List V := M.map vr
def Rect (n : Nat) (M : Mx) : Prop := ∀ r ∈ M, r.length = n
def eM (F : Mx) (i j : Nat) : Int := (F.getD i []).getD j 0
/-- A Hermite normal form with pivots ps. -/
structure IsH (n : Nat) (ps : List Nat) (F : Mx) : Prop where
  rect : Rect n F
  len : ps.length = F.length
  lt : ∀ i, i < F.length → ps.getD i 0 < n
  inc : ∀ i k, i < k → k < F.length → ps.getD i 0 < ps.getD k 0
  left : ∀ i, i < F.length → ∀ j, j < ps.getD i 0 → eM F i j = 0
  pos : ∀ i, i < F.length → 0 < eM F i (ps.getD i 0)
  red : ∀ i k, i < k → k < F.length → 0 ≤ eM F i (ps.getD k 0) ∧ eM F i (ps.getD k 0) < eM F k (ps.getD k 0)
/-- Rows with their pivots. -/
def wps (ps : List Nat) (F : Mx) : List (Nat × V) := (ps.zip F).map fun x => (x.1, vr x.2)
theorem wps_rows {ps : List Nat} {F : Mx} (h : ps.length = F.length) : Hnf.rows (wps ps F) = latM F := by
  unfold Hnf.rows wps latM
  rw [List.map_map]
  show List.map (fun x => vr x.2) (ps.zip F) = _
  rw [show (fun x : Nat × List Int => vr x.2) = vr ∘ Prod.snd from rfl, ← List.map_map, List.map_snd_zip (by omega)]
theorem ech_wps : ∀ (ps : List Nat) (F : Mx) (b : Nat), ps.length = F.length → (∀ i, i < F.length → b ≤ ps.getD i 0) → (∀ i k, i < k → k < F.length → ps.getD i 0 < ps.getD k 0) →
    (∀ i, i < F.length → ∀ j, j < ps.getD i 0 → eM F i j = 0) → (∀ i, i < F.length → 0 < eM F i (ps.getD i 0)) → Ech b (wps ps F)
  | [], [], _, _, _, _, _, _ => trivial
  | [], _ :: _, _, h, _, _, _, _ => by simp at h
  | _ :: _, [], _, h, _, _, _, _ => by simp at h
  | p :: ps, f :: F, b, hl, hb, hi, hz, hp => by
    refine ⟨hb 0 (by simp), hz 0 (by simp), hp 0 (by simp), ?_⟩
    refine ech_wps ps F (p + 1) (by simpa using hl) (fun i h => ?_) (fun i k hik hk => ?_) (fun i h => ?_) (fun i h => ?_)
    · exact hi 0 (i + 1) (by omega) (by simpa using h)
    · exact hi (i + 1) (k + 1) (by omega) (by simpa using hk)
    · exact hz (i + 1) (by simpa using h)
    · exact hp (i + 1) (by simpa using h)
theorem red_wps : ∀ (ps : List Nat) (F : Mx), ps.length = F.length → (∀ i k, i < k → k < F.length → 0 ≤ eM F i (ps.getD k 0) ∧ eM F i (ps.getD k 0) < eM F k (ps.getD k 0)) → Red (wps ps F)
  | [], [], _, _ => trivial
  | [], _ :: _, h, _ => by simp at h
  | _ :: _, [], h, _ => by simp at h
  | p :: ps, f :: F, hl, hr => by
    refine ⟨fun g hg => ?_, red_wps ps F (by simpa using hl) fun i k hik hk => hr (i + 1) (k + 1) (by omega) (by simpa using hk)⟩
    obtain ⟨x, hx, rfl⟩ := List.mem_map.1 hg
    obtain ⟨i, hi, hxe⟩ := List.getElem_of_mem hx
    have hi' : i < ps.length ∧ i < F.length := by simp at hi; omega
    have := hr 0 (i + 1) (by omega) (by simpa using hi'.2)
    obtain rfl : x = (ps[i]'hi'.1, F[i]'hi'.2) := by rw [← hxe]; exact List.getElem_zip
    simp only [eM, List.getD_cons_succ, List.getD_cons_zero] at this
    rw [getD_get hi'.1, getD_get hi'.2] at this
    exact this
theorem IsH.ech {n : Nat} {ps : List Nat} {F : Mx} (h : IsH n ps F) : Ech 0 (wps ps F) := ech_wps ps F 0 h.len (fun _ _ => Nat.zero_le _) h.inc h.left h.pos
theorem IsH.redu {n : Nat} {ps : List Nat} {F : Mx} (h : IsH n ps F) : Red (wps ps F) := red_wps ps F h.len h.red
theorem vr_inj {n : Nat} {a b : List Int} (ha : a.length = n) (hb : b.length = n) (h : vr a = vr b) : a = b := by
  refine List.ext_getElem (by omega) fun i h1 h2 => ?_
  have := congrFun h i
  simpa only [vr, List.getD_eq_getElem?_getD, List.getElem?_eq_getElem h1, List.getElem?_eq_getElem h2, Option.getD_some] using this
/-- One lattice, one form. -/
theorem IsH.unique {n : Nat} {ps qs : List Nat} {F G : Mx} (hF : IsH n ps F) (hG : IsH n qs G) (h1 : ∀ v ∈ latM F, Span (latM G) v) (h2 : ∀ v ∈ latM G, Span (latM F) v) : F = G ∧ ps = qs := by
  have e := Hnf.unique hF.ech hF.redu hG.ech hG.redu (by rw [wps_rows hF.len, wps_rows hG.len]; exact h1) (by rw [wps_rows hF.len, wps_rows hG.len]; exact h2)
  have e1 : ps = qs := by
    have := congrArg (List.map Prod.fst) e
    unfold wps at this
    rw [List.map_map, List.map_map] at this
    rw [show (Prod.fst ∘ fun x : Nat × List Int => (x.1, vr x.2)) = Prod.fst from rfl, List.map_fst_zip (by have := hF.len; omega), List.map_fst_zip (by have := hG.len; omega)] at this
    exact this
  have e2 : latM F = latM G := by rw [← wps_rows hF.len, ← wps_rows hG.len, e]
  refine ⟨?_, e1⟩
  have hl : F.length = G.length := by have := congrArg List.length e2; simpa [latM] using this
  refine List.ext_getElem hl fun i h3 h4 => ?_
  refine vr_inj (hF.rect _ (List.getElem_mem h3)) (hG.rect _ (List.getElem_mem h4)) ?_
  have := congrArg (fun l => l[i]?) e2
  simpa [latM, h3, h4] using this
/-- The first d rows of lines in echelon form. -/
def fRows (d : Nat) (ls : List Ln) : Mx := (ls.take d).map (·.1)
theorem eM_fRows {d : Nat} {ls : List Ln} {i : Nat} (h : i < d) (j : Nat) (hd : d ≤ ls.length) : eM (fRows d ls) i j = en ls i j := by
  unfold eM fRows en col
  have hi : i < ls.length := by omega
  simp only [List.getD_eq_getElem?_getD, List.getElem?_map, List.getElem?_take, if_pos h, List.getElem?_eq_getElem hi]
  rfl
theorem FormTo.isH {n d m : Nat} {ps : List Nat} {ls : List Ln} (h : FormTo n d ps ls) (hd : Dim n m ls) : IsH n ps (fRows d ls) := by
  have hl : (fRows d ls).length = d := by unfold fRows; have := h.le; simp; omega
  refine ⟨fun r hr => ?_, by rw [hl, h.len], fun i hi => ?_, fun i k hik hk => ?_, fun i hi j hj => ?_, fun i hi => ?_, fun i k hik hk => ?_⟩
  · obtain ⟨l, hl', rfl⟩ := List.mem_map.1 hr; exact (hd l (List.mem_of_mem_take hl')).1
  · rw [hl] at hi; exact h.lt i hi
  · rw [hl] at hk; exact h.inc i k hik hk
  · rw [hl] at hi; rw [eM_fRows hi _ h.le]; exact h.left i hi j hj
  · rw [hl] at hi; rw [eM_fRows hi _ h.le]; exact h.pos i hi
  · rw [hl] at hk; rw [eM_fRows (by omega) _ h.le, eM_fRows hk _ h.le]; exact h.red i k hik hk
theorem FormTo.lat {n d m : Nat} {ps : List Nat} {ls : List Ln} (h : FormTo n d ps ls) (hd : Dim n m ls) : (∀ v ∈ latM (fRows d ls), v ∈ latL ls) ∧ (∀ v ∈ latL ls, Span (latM (fRows d ls)) v) := by
  constructor
  · intro v hv
    obtain ⟨r, hr, rfl⟩ := List.mem_map.1 hv
    obtain ⟨l, hl, rfl⟩ := List.mem_map.1 hr
    exact List.mem_map.2 ⟨l, List.mem_of_mem_take hl, rfl⟩
  · intro v hv
    obtain ⟨l, hl, rfl⟩ := List.mem_map.1 hv
    obtain ⟨i, hi, rfl⟩ := List.getElem_of_mem hl
    rcases Nat.lt_or_ge i d with hid | hid
    · refine .mem (List.mem_map.2 ⟨ls[i].1, List.mem_map.2 ⟨ls[i], ?_, rfl⟩, rfl⟩)
      have : i < (ls.take d).length := by simp; omega
      have h2 := List.getElem_mem this
      rwa [List.getElem_take] at h2
    · have e : vr ls[i].1 = fun _ => 0 := by
        funext j
        rcases Nat.lt_or_ge j n with hj | hj
        · have := h.below i hid hi j hj
          unfold en col at this
          rwa [getD_get hi] at this
        · show ls[i].1.getD j 0 = 0
          rw [List.getD_eq_getElem?_getD, List.getElem?_eq_none (by rw [(hd.get hi).1]; exact hj)]; rfl
      rw [e]; exact .zero
/-- F is the Hermite normal form of M's lattice. -/
def HnfOf (n : Nat) (M F : Mx) : Prop := (∃ ps, IsH n ps F) ∧ (∀ v ∈ latM F, Span (latM M) v) ∧ (∀ v ∈ latM M, Span (latM F) v)
theorem HnfOf.unique {n : Nat} {M M' F F' : Mx} (h : HnfOf n M F) (h' : HnfOf n M' F') (h1 : ∀ v ∈ latM M, Span (latM M') v) (h2 : ∀ v ∈ latM M', Span (latM M) v) : F = F' := by
  obtain ⟨⟨ps, hF⟩, a1, a2⟩ := h
  obtain ⟨⟨qs, hG⟩, b1, b2⟩ := h'
  exact (hF.unique hG (fun v hv => ((a1 v hv).trans h1).trans b2) (fun v hv => ((b1 v hv).trans h2).trans a2)).1
/-- The lines that a matrix begins with: each row with itself alone as its sum. -/
def unitR (m i : Nat) : List Int := (List.replicate m 0).set i 1
def lines0 (M : Mx) : List Ln := M.mapIdx fun i r => (r, unitR M.length i)
@[simp] theorem lines0_length (M : Mx) : (lines0 M).length = M.length := by simp [lines0]
theorem lines0_get {M : Mx} {i : Nat} (h : i < M.length) : (lines0 M)[i]'(by simpa using h) = (M[i], unitR M.length i) := by simp [lines0]
theorem lines0_dim {n : Nat} {M : Mx} (h : Rect n M) : Dim n M.length (lines0 M) := by
  intro l hl
  obtain ⟨i, hi, rfl⟩ := List.getElem_of_mem hl
  have hi' : i < M.length := by simpa using hi
  rw [lines0_get hi']
  exact ⟨h _ (List.getElem_mem hi'), by simp [unitR]⟩
theorem lines0_lat (M : Mx) : latL (lines0 M) = latM M := by
  refine List.ext_getElem (by simp [latL, latM]) fun i h1 h2 => ?_
  have hi : i < M.length := by simpa [latM] using h2
  simp only [latL, latM, List.getElem_map, lines0_get hi]
/-- What echelon leaves is the form of the matrix. -/
theorem form_of {n d : Nat} {ps : List Nat} {M : Mx} {ls : List Ln} (hM : Rect n M) (ho : Ops 0 (lines0 M) ls) (h : FormTo n d ps ls) : HnfOf n M (fRows d ls) := by
  have hd0 := lines0_dim hM
  have hd := hd0.ops ho
  have hl := ho.lat hd0
  rw [lines0_lat] at hl
  have hf := h.lat hd
  exact ⟨⟨ps, h.isH hd⟩, fun v hv => hl.1 v (hf.1 v hv), fun v hv => (hl.2 v hv).trans hf.2⟩
end Go.Proofs.YtcklioolpicmcaaGreatDoor
/- Plain: the first element of a row that is not 0. -/
namespace Go.Proofs.YtcklioolpicmcaaGreatDoor
/-- The column of the first element that is not 0. -/
def pv (r : List Int) : Nat := r.findIdx fun z => decide (z ≠ 0)
def pvI (r : List Int) : Int := if pv r < r.length then (pv r : Int) else -1
theorem pv_le (r : List Int) : pv r ≤ r.length := List.findIdx_le_length
theorem pv_zero {r : List Int} {j : Nat} (h : j < pv r) : r.getD j 0 = 0 := by
  have hl : j < r.length := Nat.lt_of_lt_of_le h (pv_le r)
  have := List.not_of_lt_findIdx (p := fun z : Int => decide (z ≠ 0)) (xs := r) h
  rw [getD_get hl]
  simpa using this
theorem pv_ne {r : List Int} (h : pv r < r.length) : r.getD (pv r) 0 ≠ 0 := by
  have := List.findIdx_getElem (xs := r) (p := fun z : Int => decide (z ≠ 0)) (w := h)
  rw [getD_get h]
  simpa [pv] using this
theorem pvI_ix (r : List Int) : IxR (fun i => decide (r.getD i 0 ≠ 0)) r.length (pvI r) := by
  unfold pvI
  by_cases h : pv r < r.length
  · rw [if_pos h]
    exact .inr ⟨pv r, h, rfl, decide_eq_true (pv_ne h), fun j hj => decide_eq_false (by simpa using pv_zero hj)⟩
  · rw [if_neg h]
    exact .inl ⟨rfl, fun i hi => decide_eq_false (by simpa using pv_zero (by omega))⟩
theorem pv_of {r : List Int} {p : Nat} (hp : r.getD p 0 ≠ 0) (hz : ∀ j, j < p → r.getD j 0 = 0) : pv r = p ∧ p < r.length := by
  have hl : p < r.length := by
    rcases Nat.lt_or_ge p r.length with h | h
    · exact h
    · rw [List.getD_eq_getElem?_getD, List.getElem?_eq_none h] at hp; exact absurd rfl hp
  refine ⟨?_, hl⟩
  rcases Nat.lt_trichotomy (pv r) p with h | h | h
  · exact absurd (hz _ h) (pv_ne (by omega))
  · exact h
  · exact absurd (pv_zero h) hp
theorem getD_map {α β : Type} (f : α → β) (l : List α) (i : Nat) (h : i < l.length) (d : β) (e : α) : (l.map f).getD i d = f (l.getD i e) := by
  rw [getD_get (by simpa using h), getD_get h]; simp
theorem isH_pv {n : Nat} {ps : List Nat} {M : Mx} (h : IsH n ps M) : ps = M.map pv := by
  refine List.ext_getElem (by rw [h.len]; simp) fun i h1 h2 => ?_
  have hi : i < M.length := by simpa using h2
  have hp := h.pos i hi
  have hl := h.left i hi
  rw [getD_get h1] at hp hl
  have := (pv_of (r := M.getD i []) (p := ps[i]) (by show eM M i ps[i] ≠ 0; omega) (fun j hj => hl j hj)).1
  rw [List.getElem_map, ← this, getD_get hi]
theorem take_snocM {F : Mx} {i : Nat} (h : i < F.length) : F.take (i + 1) = F.take i ++ [F[i]] := List.take_succ_eq_append_getElem h
end Go.Proofs.YtcklioolpicmcaaGreatDoor
/- Plain: the numbers of a Hermite normal form are small if those of the matrix are: by minors of at most four rows. -/
namespace Go.Proofs.YtcklioolpicmcaaGreatDoor
open Hnf (V Span Ech Red)
theorem lin_zero {M : List V} {f : V → Int} (h0 : f (fun _ => 0) = 0) (h1 : ∀ v q u, f (Hnf.sub v q u) = f v - q * f u) (h : ∀ r ∈ M, f r = 0) {v : V} (hv : Span M v) : f v = 0 := by
  induction hv with
  | zero => exact h0
  | step q _ hr ih => rw [h1, ih, h _ hr]; simp
/-- A linear form that is not zero on the lattice is not zero at a row. -/
theorem lin_row {M : List V} {f : V → Int} (h0 : f (fun _ => 0) = 0) (h1 : ∀ v q u, f (Hnf.sub v q u) = f v - q * f u) {v : V} (hv : Span M v) (hne : f v ≠ 0) : ∃ r ∈ M, f r ≠ 0 :=
  Classical.byContradiction fun hc => hne (lin_zero h0 h1 (fun r hr => Classical.byContradiction fun h => hc ⟨r, hr, h⟩) hv)
def det2 (x y : V) (p q : Nat) : Int := x p * y q - x q * y p
def det3 (x y z : V) (p q s : Nat) : Int := x p * det2 y z q s - x q * det2 y z p s + x s * det2 y z p q
def det4 (x y z t : V) (p q s u : Nat) : Int := x p * det3 y z t q s u - x q * det3 y z t p s u + x s * det3 y z t p q u - x u * det3 y z t p q s
/-- The sum of multiples. -/
def comb (a : Nat → Int) (w : Nat → V) : Nat → V
  | 0 => fun _ => 0
  | k + 1 => Hnf.sub (comb a w k) (-(a k)) (w k)
theorem comb_span {M : List V} {a : Nat → Int} {w : Nat → V} : ∀ {r : Nat}, (∀ k, k < r → Span M (w k)) → Span M (comb a w r)
  | 0, _ => .zero
  | r + 1, h => (comb_span (r := r) fun k hk => h k (by omega)).sub _ (h r (by omega))
theorem comb_out {a : Nat → Int} {w : Nat → V} {j : Nat} : ∀ {r : Nat}, (∀ k, k < r → w k j = 0) → comb a w r j = 0
  | 0, _ => rfl
  | r + 1, h => by simp only [comb, Hnf.sub]; rw [comb_out (r := r) (fun k hk => h k (by omega)), h r (by omega)]; simp
theorem comb_at {a : Nat → Int} {w : Nat → V} {j s : Nat} {d : Int} : ∀ {r : Nat}, s < r → (∀ k, k < r → w k j = if k = s then d else 0) → comb a w r j = a s * d
  | 0, hs, _ => by omega
  | r + 1, hs, h => by
    simp only [comb, Hnf.sub]
    by_cases e : s = r
    · subst e
      rw [comb_out (r := s) (fun k hk => by rw [h k (by omega), if_neg (by omega)]), h s (by omega), if_pos rfl]; simp [Int.neg_mul]
    · rw [comb_at (r := r) (s := s) (d := d) (by omega) (fun k hk => h k (by omega)), h r (by omega), if_neg (by omega)]; simp
theorem comb_abs {a : Nat → Int} {w : Nat → V} {j A C : Nat} : ∀ {r : Nat}, (∀ k, k < r → (a k).natAbs ≤ A) → (∀ k, k < r → (w k j).natAbs ≤ C) → (comb a w r j).natAbs ≤ r * (A * C)
  | 0, _, _ => by simp [comb]
  | r + 1, h, h' => by
    have ih := comb_abs (r := r) (j := j) (fun k hk => h k (by omega)) (fun k hk => h' k (by omega))
    have h2 : (a r * w r j).natAbs ≤ A * C := by rw [Int.natAbs_mul]; exact Nat.mul_le_mul (h r (by omega)) (h' r (by omega))
    have e : (r + 1) * (A * C) = r * (A * C) + A * C := Nat.succ_mul _ _
    simp only [comb, Hnf.sub, Int.neg_mul]
    omega
/-- Vectors of the lattice that are a multiple d of the units on the pivots. -/
structure Duals (M : List V) (ps : List Nat) (r C : Nat) (d : Int) (w : Nat → V) : Prop where
  ne : d ≠ 0
  span : ∀ k, k < r → Span M (w k)
  at' : ∀ k, k < r → ∀ s, s < r → w k (ps.getD s 0) = if k = s then d else 0
  abs : ∀ k, k < r → ∀ j, (w k j).natAbs ≤ C
theorem wps_mem {ps : List Nat} {F : Mx} (hl : ps.length = F.length) {g : Nat × V} (hg : g ∈ wps ps F) : ∃ i, i < F.length ∧ g = (ps.getD i 0, vr (F.getD i [])) := by
  obtain ⟨x, hx, rfl⟩ := List.mem_map.1 hg
  obtain ⟨i, hi, hxe⟩ := List.getElem_of_mem hx
  have hi' : i < ps.length ∧ i < F.length := by simp at hi; omega
  obtain rfl : x = (ps[i]'hi'.1, F[i]'hi'.2) := by rw [← hxe]; exact List.getElem_zip
  exact ⟨i, hi'.2, by rw [getD_get hi'.1, getD_get hi'.2]⟩
/-- What vanishes on the pivots vanishes. -/
theorem pivots_zero {n : Nat} {ps : List Nat} {F : Mx} (h : IsH n ps F) {v : V} (hv : Span (latM F) v) (hz : ∀ i, i < F.length → v (ps.getD i 0) = 0) : ∀ j, v j = 0 := by
  rcases Hnf.first v with h0 | ⟨j, hj, hz'⟩
  · exact h0
  · exfalso
    rw [← wps_rows h.len] at hv
    obtain ⟨g, hg, e, _⟩ := h.ech.lead hv hj hz'
    obtain ⟨i, hi, rfl⟩ := wps_mem h.len hg
    exact hj (by rw [← e]; exact hz i hi)
theorem pivot_dvd {n : Nat} {ps : List Nat} {F : Mx} (h : IsH n ps F) {v : V} (hv : Span (latM F) v) {k : Nat} {d : Int} (hd : d ≠ 0) (hk : k < F.length) (hz : ∀ s, s < F.length → v (ps.getD s 0) = if k = s then d else 0) : eM F k (ps.getD k 0) ∣ d := by
  rcases Hnf.first v with h0 | ⟨j, hj, hz'⟩
  · exact absurd (h0 (ps.getD k 0)) (by rw [hz k hk, if_pos rfl]; exact hd)
  · rw [← wps_rows h.len] at hv
    obtain ⟨g, hg, e, hdv⟩ := h.ech.lead hv hj hz'
    obtain ⟨i, hi, rfl⟩ := wps_mem h.len hg
    simp only at e hdv
    subst e
    have := hz i hi
    by_cases e : k = i
    · subst e
      rw [if_pos rfl] at this
      rw [this] at hdv
      exact hdv
    · rw [if_neg e] at this; exact absurd this hj
theorem duals_small {n C : Nat} {ps : List Nat} {F : Mx} {d : Int} {w : Nat → V} (h : IsH n ps F) (hD : Duals (latM F) ps F.length C d w) (i : Nat) (hi : i < F.length) (j : Nat) : (eM F i j).natAbs ≤ F.length * C := by
  have hpk : ∀ k, k < F.length → (eM F k (ps.getD k 0)).natAbs ≤ d.natAbs := fun k hk => by
    obtain ⟨c, hc⟩ := pivot_dvd h (hD.span k hk) hD.ne hk (hD.at' k hk)
    have := hD.ne
    have hc0 : c ≠ 0 := by intro e; subst e; simp at hc; exact this hc
    rw [hc, Int.natAbs_mul]
    exact Nat.le_mul_of_pos_right _ (by omega)
  have hik : ∀ k, k < F.length → (eM F i (ps.getD k 0)).natAbs ≤ d.natAbs := fun k hk => by
    have := hpk k hk
    rcases Nat.lt_trichotomy i k with hlt | rfl | hgt
    · have := h.red i k hlt hk; omega
    · exact this
    · rw [h.left i hi _ (h.inc k i hgt hi)]; simp
  have hF : Span (latM F) (vr (F.getD i [])) := .mem (by rw [getD_get hi]; exact List.mem_map.2 ⟨F[i], List.getElem_mem hi, rfl⟩)
  have hz := pivots_zero h (v := Hnf.sub (Hnf.sub (fun _ => 0) (-d) (vr (F.getD i []))) 1 (comb (fun k => eM F i (ps.getD k 0)) w F.length)) ((Span.zero.sub (-d) hF).sub 1 (comb_span hD.span)) (by
    intro s hs
    simp only [Hnf.sub]
    rw [comb_at (s := s) (d := d) hs (fun k hk => hD.at' k hk s hs)]
    show 0 - -d * eM F i (ps.getD s 0) - 1 * (eM F i (ps.getD s 0) * d) = 0
    grind) j
  have e : d * eM F i j = comb (fun k => eM F i (ps.getD k 0)) w F.length j := by
    simp only [Hnf.sub] at hz
    have : 0 - -d * eM F i j - 1 * comb (fun k => eM F i (ps.getD k 0)) w F.length j = 0 := hz
    grind
  have hb := comb_abs (a := fun k => eM F i (ps.getD k 0)) (w := w) (j := j) (A := d.natAbs) (C := C) (r := F.length) hik (fun k hk => hD.abs k hk j)
  rw [← e, Int.natAbs_mul] at hb
  have e2 : F.length * (d.natAbs * C) = d.natAbs * (F.length * C) := by grind
  rw [e2] at hb
  exact Nat.le_of_mul_le_mul_left hb (by have := hD.ne; omega)
theorem mul_abs {a b : Int} {A B : Nat} (h : a.natAbs ≤ A) (h' : b.natAbs ≤ B) : (a * b).natAbs ≤ A * B := by rw [Int.natAbs_mul]; exact Nat.mul_le_mul h h'
theorem det2_abs {x y : V} (hx : ∀ j, (x j).natAbs ≤ 20) (hy : ∀ j, (y j).natAbs ≤ 20) (p q : Nat) : (det2 x y p q).natAbs ≤ 800 := by
  have h1 := mul_abs (hx p) (hy q)
  have h2 := mul_abs (hx q) (hy p)
  unfold det2; omega
theorem det3_abs {x y z : V} (hx : ∀ j, (x j).natAbs ≤ 20) (hy : ∀ j, (y j).natAbs ≤ 20) (hz : ∀ j, (z j).natAbs ≤ 20) (p q s : Nat) : (det3 x y z p q s).natAbs ≤ 48000 := by
  have h1 := mul_abs (hx p) (det2_abs hy hz q s)
  have h2 := mul_abs (hx q) (det2_abs hy hz p s)
  have h3 := mul_abs (hx s) (det2_abs hy hz p q)
  unfold det3; omega
theorem det4_abs {x y z t : V} (hx : ∀ j, (x j).natAbs ≤ 20) (hy : ∀ j, (y j).natAbs ≤ 20) (hz : ∀ j, (z j).natAbs ≤ 20) (ht : ∀ j, (t j).natAbs ≤ 20) (p q s u : Nat) : (det4 x y z t p q s u).natAbs ≤ 3840000 := by
  have h1 := mul_abs (hx p) (det3_abs hy hz ht q s u)
  have h2 := mul_abs (hx q) (det3_abs hy hz ht p s u)
  have h3 := mul_abs (hx s) (det3_abs hy hz ht p q u)
  have h4 := mul_abs (hx u) (det3_abs hy hz ht p q s)
  unfold det4; omega
theorem span_of_eq {M : List V} {v u : V} (h : Span M v) (e : ∀ j, u j = v j) : Span M u := by rw [show u = v from funext e]; exact h
theorem lt2 {s : Nat} (h : s < 2) : s = 0 ∨ s = 1 := by omega
theorem lt3 {s : Nat} (h : s < 3) : s = 0 ∨ s = 1 ∨ s = 2 := by omega
theorem lt4 {s : Nat} (h : s < 4) : s = 0 ∨ s = 1 ∨ s = 2 ∨ s = 3 := by omega
theorem duals0 (M : List V) (ps : List Nat) : Duals M ps 0 3840000 1 (fun _ _ => 0) := ⟨by decide, fun k h => by omega, fun k h => by omega, fun k h => by omega⟩
theorem duals1 {M : List V} {p : Nat} {f : V} (hM : ∀ r ∈ M, ∀ j, (r j).natAbs ≤ 20) (hf : Span M f) (h : f p ≠ 0) : ∃ d w, Duals M [p] 1 3840000 d w := by
  obtain ⟨x, hx, hne⟩ := lin_row (f := fun v => v p) rfl (fun v q u => rfl) hf h
  refine ⟨x p, fun _ => x, hne, fun k _ => .mem hx, fun k hk s hs => ?_, fun k _ j => by have := hM x hx j; omega⟩
  obtain rfl : k = 0 := by omega
  obtain rfl : s = 0 := by omega
  rw [if_pos rfl]; rfl
theorem duals2 {M : List V} {p q : Nat} {f g : V} (hM : ∀ r ∈ M, ∀ j, (r j).natAbs ≤ 20) (hf : Span M f) (hg : Span M g) (h : det2 f g p q ≠ 0) : ∃ d w, Duals M [p, q] 2 3840000 d w := by
  obtain ⟨x, hx, h⟩ := lin_row (f := fun v => det2 v g p q) (by simp [det2]) (fun v k u => by simp only [det2, Hnf.sub]; grind) hf h
  obtain ⟨y, hy, h⟩ := lin_row (f := fun v => det2 x v p q) (by simp [det2]) (fun v k u => by simp only [det2, Hnf.sub]; grind) hg h
  have bx := hM x hx
  have bY := hM y hy
  refine ⟨det2 x y p q, fun k => if k = 0 then fun j => det2 x y j q else fun j => det2 x y p j, h, fun k hk => ?_, fun k hk s hs => ?_, fun k hk j => ?_⟩
  · rcases lt2 hk with rfl | rfl
    · exact span_of_eq ((Span.zero.step (-(y q)) hx).step (x q) hy) fun j => by simp [det2, Hnf.sub]; grind
    · exact span_of_eq ((Span.zero.step (y p) hx).step (-(x p)) hy) fun j => by simp [det2, Hnf.sub]; grind
  · rcases lt2 hk with rfl | rfl <;> rcases lt2 hs with rfl | rfl <;> simp [det2] <;> grind
  · rcases lt2 hk with rfl | rfl
    · have := det2_abs bx bY j q; simp; omega
    · have := det2_abs bx bY p j; simp; omega
theorem duals3 {M : List V} {p q s : Nat} {f g e : V} (hM : ∀ r ∈ M, ∀ j, (r j).natAbs ≤ 20) (hf : Span M f) (hg : Span M g) (he : Span M e) (h : det3 f g e p q s ≠ 0) : ∃ d w, Duals M [p, q, s] 3 3840000 d w := by
  obtain ⟨x, hx, h⟩ := lin_row (f := fun v => det3 v g e p q s) (by simp [det3]) (fun v k u => by simp only [det3, Hnf.sub]; grind) hf h
  obtain ⟨y, hy, h⟩ := lin_row (f := fun v => det3 x v e p q s) (by simp [det3, det2]) (fun v k u => by simp only [det3, det2, Hnf.sub]; grind) hg h
  obtain ⟨z, hz, h⟩ := lin_row (f := fun v => det3 x y v p q s) (by simp [det3, det2]) (fun v k u => by simp only [det3, det2, Hnf.sub]; grind) he h
  have bx := hM x hx
  have bY := hM y hy
  have bz := hM z hz
  refine ⟨det3 x y z p q s, fun k => if k = 0 then fun j => det3 x y z j q s else if k = 1 then fun j => det3 x y z p j s else fun j => det3 x y z p q j, h, fun k hk => ?_, fun k hk t ht => ?_, fun k hk j => ?_⟩
  · rcases lt3 hk with rfl | rfl | rfl
    · exact span_of_eq (((Span.zero.step (-(det2 y z q s)) hx).step (det2 x z q s) hy).step (-(det2 x y q s)) hz) fun j => by simp [det3, det2, Hnf.sub]; grind
    · exact span_of_eq (((Span.zero.step (det2 y z p s) hx).step (-(det2 x z p s)) hy).step (det2 x y p s) hz) fun j => by simp [det3, det2, Hnf.sub]; grind
    · exact span_of_eq (((Span.zero.step (-(det2 y z p q)) hx).step (det2 x z p q) hy).step (-(det2 x y p q)) hz) fun j => by simp [det3, det2, Hnf.sub]; grind
  · rcases lt3 hk with rfl | rfl | rfl <;> rcases lt3 ht with rfl | rfl | rfl <;> simp [det3, det2] <;> grind
  · rcases lt3 hk with rfl | rfl | rfl
    · have := det3_abs bx bY bz j q s; simp; omega
    · have := det3_abs bx bY bz p j s; simp; omega
    · have := det3_abs bx bY bz p q j; simp; omega
theorem duals4 {M : List V} {p q s t : Nat} {f g e c : V} (hM : ∀ r ∈ M, ∀ j, (r j).natAbs ≤ 20) (hf : Span M f) (hg : Span M g) (he : Span M e) (hc : Span M c) (h : det4 f g e c p q s t ≠ 0) : ∃ d w, Duals M [p, q, s, t] 4 3840000 d w := by
  obtain ⟨x, hx, h⟩ := lin_row (f := fun v => det4 v g e c p q s t) (by simp [det4]) (fun v k u => by simp only [det4, Hnf.sub]; grind) hf h
  obtain ⟨y, hy, h⟩ := lin_row (f := fun v => det4 x v e c p q s t) (by simp [det4, det3]) (fun v k u => by simp only [det4, det3, Hnf.sub]; grind) hg h
  obtain ⟨z, hz, h⟩ := lin_row (f := fun v => det4 x y v c p q s t) (by simp [det4, det3, det2]) (fun v k u => by simp only [det4, det3, det2, Hnf.sub]; grind) he h
  obtain ⟨o, ho, h⟩ := lin_row (f := fun v => det4 x y z v p q s t) (by simp [det4, det3, det2]) (fun v k u => by simp only [det4, det3, det2, Hnf.sub]; grind) hc h
  have bx := hM x hx
  have bY := hM y hy
  have bz := hM z hz
  have bo := hM o ho
  refine ⟨det4 x y z o p q s t, fun k => if k = 0 then fun j => det4 x y z o j q s t else if k = 1 then fun j => det4 x y z o p j s t else if k = 2 then fun j => det4 x y z o p q j t else fun j => det4 x y z o p q s j, h, fun k hk => ?_, fun k hk i hi => ?_, fun k hk j => ?_⟩
  · rcases lt4 hk with rfl | rfl | rfl | rfl
    · exact span_of_eq ((((Span.zero.step (-(det3 y z o q s t)) hx).step (det3 x z o q s t) hy).step (-(det3 x y o q s t)) hz).step (det3 x y z q s t) ho) fun j => by simp [det4, det3, det2, Hnf.sub]; grind
    · exact span_of_eq ((((Span.zero.step (det3 y z o p s t) hx).step (-(det3 x z o p s t)) hy).step (det3 x y o p s t) hz).step (-(det3 x y z p s t)) ho) fun j => by simp [det4, det3, det2, Hnf.sub]; grind
    · exact span_of_eq ((((Span.zero.step (-(det3 y z o p q t)) hx).step (det3 x z o p q t) hy).step (-(det3 x y o p q t)) hz).step (det3 x y z p q t) ho) fun j => by simp [det4, det3, det2, Hnf.sub]; grind
    · exact span_of_eq ((((Span.zero.step (det3 y z o p q s) hx).step (-(det3 x z o p q s)) hy).step (det3 x y o p q s) hz).step (-(det3 x y z p q s)) ho) fun j => by simp [det4, det3, det2, Hnf.sub]; grind
  · rcases lt4 hk with rfl | rfl | rfl | rfl <;> rcases lt4 hi with rfl | rfl | rfl | rfl <;> simp [det4, det3, det2] <;> grind
  · rcases lt4 hk with rfl | rfl | rfl | rfl
    · have := det4_abs bx bY bz bo j q s t; simp; omega
    · have := det4_abs bx bY bz bo p j s t; simp; omega
    · have := det4_abs bx bY bz bo p q j t; simp; omega
    · have := det4_abs bx bY bz bo p q s j; simp; omega
theorem Duals.mono {M N : List V} {ps : List Nat} {r C : Nat} {d : Int} {w : Nat → V} (h : Duals M ps r C d w) (hM : ∀ v ∈ M, Span N v) : Duals N ps r C d w := ⟨h.ne, fun k hk => (h.span k hk).trans hM, h.at', h.abs⟩
theorem mulpos_ne {a b : Int} (h : 0 < a) (h' : 0 < b) : a * b ≠ 0 := by have := Int.mul_pos h h'; omega
/-- The form of a matrix of small numbers with at most four columns. -/
theorem hnf_small {n : Nat} {M F : Mx} (hn : n ≤ 4) (hM : ∀ r ∈ M, ∀ z ∈ r, z.natAbs ≤ 20) (h : HnfOf n M F) : ∀ i, i < F.length → ∀ j, (eM F i j).natAbs ≤ 15360000 := by
  obtain ⟨⟨ps, hF⟩, h1, h2⟩ := h
  have hM' : ∀ r ∈ latM M, ∀ j, (r j).natAbs ≤ 20 := by
    intro r hr j
    obtain ⟨l, hl, rfl⟩ := List.mem_map.1 hr
    show (l.getD j 0).natAbs ≤ 20
    rw [List.getD_eq_getElem?_getD]
    rcases Nat.lt_or_ge j l.length with hj | hj
    · rw [List.getElem?_eq_getElem hj]; exact hM l hl _ (List.getElem_mem hj)
    · rw [List.getElem?_eq_none hj]; simp
  have hD : F.length ≤ 4 ∧ ∃ d w, Duals (latM M) ps F.length 3840000 d w := by
    have hlen := hF.len
    match F, ps, hF, h1, hlen with
    | [], [], hF, h1, _ => exact ⟨by simp, _, _, duals0 _ _⟩
    | [f], [p], hF, h1, _ =>
      exact ⟨by simp, duals1 hM' (h1 (vr f) (by simp [latM])) (by have : 0 < vr f p := hF.pos 0 (by simp); omega)⟩
    | [f, g], [p, q], hF, h1, _ =>
      refine ⟨by simp, duals2 hM' (h1 (vr f) (by simp [latM])) (h1 (vr g) (by simp [latM])) ?_⟩
      have a0 : 0 < vr f p := hF.pos 0 (by simp)
      have a1 : 0 < vr g q := hF.pos 1 (by simp)
      have z1 : vr g p = 0 := hF.left 1 (by simp) p (hF.inc 0 1 (by omega) (by simp))
      unfold det2; rw [z1]
      have := mulpos_ne a0 a1; simpa using this
    | [f, g, e], [p, q, s], hF, h1, _ =>
      refine ⟨by simp, duals3 hM' (h1 (vr f) (by simp [latM])) (h1 (vr g) (by simp [latM])) (h1 (vr e) (by simp [latM])) ?_⟩
      have a0 : 0 < vr f p := hF.pos 0 (by simp)
      have a1 : 0 < vr g q := hF.pos 1 (by simp)
      have a2 : 0 < vr e s := hF.pos 2 (by simp)
      have z1 : vr g p = 0 := hF.left 1 (by simp) p (hF.inc 0 1 (by omega) (by simp))
      have z2 : vr e p = 0 := hF.left 2 (by simp) p (hF.inc 0 2 (by omega) (by simp))
      have z3 : vr e q = 0 := hF.left 2 (by simp) q (hF.inc 1 2 (by omega) (by simp))
      simp only [det3, det2, z1, z2, z3]
      have := mulpos_ne a0 (Int.mul_pos a1 a2); simpa using this
    | [f, g, e, c], [p, q, s, t], hF, h1, _ =>
      refine ⟨by simp, duals4 hM' (h1 (vr f) (by simp [latM])) (h1 (vr g) (by simp [latM])) (h1 (vr e) (by simp [latM])) (h1 (vr c) (by simp [latM])) ?_⟩
      have a0 : 0 < vr f p := hF.pos 0 (by simp)
      have a1 : 0 < vr g q := hF.pos 1 (by simp)
      have a2 : 0 < vr e s := hF.pos 2 (by simp)
      have a3 : 0 < vr c t := hF.pos 3 (by simp)
      have z1 : vr g p = 0 := hF.left 1 (by simp) p (hF.inc 0 1 (by omega) (by simp))
      have z2 : vr e p = 0 := hF.left 2 (by simp) p (hF.inc 0 2 (by omega) (by simp))
      have z3 : vr e q = 0 := hF.left 2 (by simp) q (hF.inc 1 2 (by omega) (by simp))
      have z4 : vr c p = 0 := hF.left 3 (by simp) p (hF.inc 0 3 (by omega) (by simp))
      have z5 : vr c q = 0 := hF.left 3 (by simp) q (hF.inc 1 3 (by omega) (by simp))
      have z6 : vr c s = 0 := hF.left 3 (by simp) s (hF.inc 2 3 (by omega) (by simp))
      simp only [det4, det3, det2, z1, z2, z3, z4, z5, z6]
      have := mulpos_ne a0 (Int.mul_pos a1 (Int.mul_pos a2 a3)); simpa using this
    | _ :: _ :: _ :: _ :: _ :: F', p :: q :: s :: t :: u :: ps', hF, h1, _ =>
      exfalso
      have i1 := hF.inc 0 1 (by omega) (by simp)
      have i2 := hF.inc 1 2 (by omega) (by simp)
      have i3 := hF.inc 2 3 (by omega) (by simp)
      have i4 := hF.inc 3 4 (by omega) (by simp)
      have i5 := hF.lt 4 (by simp)
      omega
    | [], _ :: _, hF, h1, hl => simp at hl
    | [_], [], hF, h1, hl => simp at hl
    | [_], _ :: _ :: _, hF, h1, hl => simp at hl
    | [_, _], [], hF, h1, hl => simp at hl
    | [_, _], [_], hF, h1, hl => simp at hl
    | [_, _], _ :: _ :: _ :: _, hF, h1, hl => simp at hl
    | [_, _, _], [], hF, h1, hl => simp at hl
    | [_, _, _], [_], hF, h1, hl => simp at hl
    | [_, _, _], [_, _], hF, h1, hl => simp at hl
    | [_, _, _], _ :: _ :: _ :: _ :: _, hF, h1, hl => simp at hl
    | _ :: _ :: _ :: _ :: _, [], hF, h1, hl => simp at hl
    | _ :: _ :: _ :: _ :: _, [_], hF, h1, hl => simp at hl
    | _ :: _ :: _ :: _ :: _, [_, _], hF, h1, hl => simp at hl
    | _ :: _ :: _ :: _ :: _, [_, _, _], hF, h1, hl => simp at hl
    | _ :: _ :: _ :: _ :: _ :: _, [_, _, _, _], hF, h1, hl => simp at hl
    | [_, _, _, _], _ :: _ :: _ :: _ :: _ :: _, hF, h1, hl => simp at hl
  obtain ⟨hl, d, w, hD⟩ := hD
  intro i hi j
  have := duals_small hF (hD.mono h2) i hi j
  have : F.length * 3840000 ≤ 4 * 3840000 := Nat.mul_le_mul_right _ hl
  omega
end Go.Proofs.YtcklioolpicmcaaGreatDoor
