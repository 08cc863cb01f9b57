/- Part 11 of the proof of the claim: contracts of the functions that it reaches, and plain laws; no condition. -/
import Derived.Test.YtnmmglnadnfoiaaGreatDoorV09
import Derived.Test.YtnmmglnadnfoiaaGreatDoorV10
import Derived.Deep.RegionHeld3
import Derived.Deep.AppendLies
import Derived.Test.YtnmmglnadnfoiaaGreatDoorV08
/- Plain: row operations keep the lattice; the echelon form is the Hermite normal form, and there is one alone. -/
namespace Go.Proofs.YtnmmglnadnfoiaaGreatDoor
open Hnf (V Span Ech Red)
/-- A row as a function of the column. -/
def vr (r : List Int) : V := fun j => r.getD j 0
def latL (ls : List Ln) : List V := ls.map fun l => vr l.1
theorem lat_get {ls : List Ln} {i : Nat} (h : i < ls.length) : vr ls[i].1 ∈ latL ls := List.mem_map.2 ⟨ls[i], List.getElem_mem h, rfl⟩
theorem vr_sub (k : Int) {a b : List Int} (h : b.length ≤ a.length) : vr (subK k a b) = Hnf.sub (vr a) k (vr b) := by
  funext j; exact subK_getD k a b j h
theorem vr_neg (a : List Int) : vr (a.map fun z => -z) = Hnf.sub (fun _ => 0) 1 (vr a) := by
  funext j; have := col_lneg j (a, []); simp only [col, lneg] at this; simp only [vr, Hnf.sub]; omega
theorem lat_set {ls : List Ln} {i : Nat} {l : Ln} {v : V} (h : v ∈ latL (ls.set i l)) : v = vr l.1 ∨ v ∈ latL ls := by
  obtain ⟨x, hx, rfl⟩ := List.mem_map.1 h
  rcases List.mem_or_eq_of_mem_set hx with hx | rfl
  · exact .inr (List.mem_map.2 ⟨x, hx, rfl⟩)
  · exact .inl rfl
theorem Step.lat {d n m : Nat} {a b : List Ln} (h : Step d a b) (hd : Dim n m a) : (∀ v ∈ latL b, Span (latL a) v) ∧ (∀ v ∈ latL a, Span (latL b) v) := by
  cases h with
  | swap p q hp hq dp dq =>
    constructor
    · intro v hv
      rcases lat_set hv with rfl | hv
      · exact .mem (lat_get hp)
      · rcases lat_set hv with rfl | hv
        · exact .mem (lat_get hq)
        · exact .mem hv
    · intro v hv
      obtain ⟨l, hl, rfl⟩ := List.mem_map.1 hv
      obtain ⟨i, hi, rfl⟩ := List.getElem_of_mem hl
      by_cases e : i = p
      · subst e
        have h1 : q < ((a.set i a[q]).set q a[i]).length := by simpa using hq
        have := lat_get h1
        rw [List.getElem_set_self] at this
        exact .mem this
      · by_cases e2 : i = q
        · subst e2
          have h1 : p < ((a.set p a[i]).set i a[p]).length := by simpa using hp
          have := lat_get h1
          rw [List.getElem_set_ne (by omega), List.getElem_set_self] at this
          exact .mem this
        · have h1 : i < ((a.set p a[q]).set q a[p]).length := by simpa using hi
          have := lat_get h1
          rw [List.getElem_set_ne (by omega), List.getElem_set_ne (by omega)] at this
          exact .mem this
  | sub p q k hp hq hpq dp dq =>
    have hlen : a[q].1.length ≤ a[p].1.length := by rw [(hd.get hp).1, (hd.get hq).1]; exact Nat.le_refl _
    constructor
    · intro v hv
      rcases lat_set hv with rfl | hv
      · show Span _ (vr (subK k a[p].1 a[q].1))
        rw [vr_sub k hlen]
        exact .step k (.mem (lat_get hp)) (lat_get hq)
      · exact .mem hv
    · intro v hv
      obtain ⟨l, hl, rfl⟩ := List.mem_map.1 hv
      obtain ⟨i, hi, rfl⟩ := List.getElem_of_mem hl
      have hq' : vr a[q].1 ∈ latL (a.set p (lsub k a[p] a[q])) := by
        have h1 : q < (a.set p (lsub k a[p] a[q])).length := by simpa using hq
        have := lat_get h1
        rwa [List.getElem_set_ne hpq] at this
      by_cases e : i = p
      · subst e
        have h1 : i < (a.set i (lsub k a[i] a[q])).length := by simpa using hi
        have := lat_get h1
        rw [List.getElem_set_self] at this
        have h2 := Span.step (-k) (.mem this) hq'
        have e : Hnf.sub (vr (lsub k a[i] a[q]).1) (-k) (vr a[q].1) = vr a[i].1 := by
          show Hnf.sub (vr (subK k a[i].1 a[q].1)) (-k) (vr a[q].1) = vr a[i].1
          rw [vr_sub k hlen]; funext j; simp only [Hnf.sub, Int.neg_mul]; omega
        rwa [e] at h2
      · have h1 : i < (a.set p (lsub k a[p] a[q])).length := by simpa using hi
        have := lat_get h1
        rw [List.getElem_set_ne (Ne.symm e)] at this
        exact .mem this
  | neg p hp dp =>
    constructor
    · intro v hv
      rcases lat_set hv with rfl | hv
      · show Span _ (vr (a[p].1.map fun z => -z))
        rw [vr_neg]; exact .step 1 .zero (lat_get hp)
      · exact .mem hv
    · intro v hv
      obtain ⟨l, hl, rfl⟩ := List.mem_map.1 hv
      obtain ⟨i, hi, rfl⟩ := List.getElem_of_mem hl
      by_cases e : i = p
      · subst e
        have h1 : i < (a.set i (lneg a[i])).length := by simpa using hi
        have := lat_get h1
        rw [List.getElem_set_self] at this
        have h2 := Span.step 1 .zero this
        have e : Hnf.sub (fun _ => 0) 1 (vr (lneg a[i]).1) = vr a[i].1 := by
          show Hnf.sub (fun _ => 0) 1 (vr (a[i].1.map fun z => -z)) = vr a[i].1
          rw [vr_neg]; funext j; simp only [Hnf.sub]; omega
        rwa [e] at h2
      · have h1 : i < (a.set p (lneg a[p])).length := by simpa using hi
        have := lat_get h1
        rw [List.getElem_set_ne (Ne.symm e)] at this
        exact .mem this
theorem Ops.lat {d n m : Nat} {a b : List Ln} (h : Ops d a b) (hd : Dim n m a) : (∀ v ∈ latL b, Span (latL a) v) ∧ (∀ v ∈ latL a, Span (latL b) v) := by
  induction h with
  | refl => exact ⟨fun v hv => .mem hv, fun v hv => .mem hv⟩
  | step o s ih =>
    have hs := s.lat (hd.ops o)
    exact ⟨fun v hv => (hs.1 v hv).trans ih.1, fun v hv => (ih.2 v hv).trans hs.2⟩
/-- Matrices: lists of rows. -/
abbrev Mx := List (List Int)
def latM (M : Mx) : List V := M.map vr
def Rect (n : Nat) (M : Mx) : Prop := ∀ r ∈ M, r.length = n
def eM (F : Mx) (i j : Nat) : Int := (F.getD i []).getD j 0
/-- A Hermite normal form with pivots ps. -/
structure IsH (n : Nat) (ps : List Nat) (F : Mx) : Prop where
  rect : Rect n F
  len : ps.length = F.length
  lt : ∀ i, i < F.length → ps.getD i 0 < n
  inc : ∀ i k, i < k → k < F.length → ps.getD i 0 < ps.getD k 0
  left : ∀ i, i < F.length → ∀ j, j < ps.getD i 0 → eM F i j = 0
  pos : ∀ i, i < F.length → 0 < eM F i (ps.getD i 0)
  red : ∀ i k, i < k → k < F.length → 0 ≤ eM F i (ps.getD k 0) ∧ eM F i (ps.getD k 0) < eM F k (ps.getD k 0)
/-- Rows with their pivots. -/
def wps (ps : List Nat) (F : Mx) : List (Nat × V) := (ps.zip F).map fun x => (x.1, vr x.2)
theorem wps_rows {ps : List Nat} {F : Mx} (h : ps.length = F.length) : Hnf.rows (wps ps F) = latM F := by
  unfold Hnf.rows wps latM
  rw [List.map_map]
  show List.map (fun x => vr x.2) (ps.zip F) = _
  rw [show (fun x : Nat × List Int => vr x.2) = vr ∘ Prod.snd from rfl, ← List.map_map, List.map_snd_zip (by omega)]
theorem ech_wps : ∀ (ps : List Nat) (F : Mx) (b : Nat), ps.length = F.length → (∀ i, i < F.length → b ≤ ps.getD i 0) → (∀ i k, i < k → k < F.length → ps.getD i 0 < ps.getD k 0) →
    (∀ i, i < F.length → ∀ j, j < ps.getD i 0 → eM F i j = 0) → (∀ i, i < F.length → 0 < eM F i (ps.getD i 0)) → Ech b (wps ps F)
  | [], [], _, _, _, _, _, _ => trivial
  | [], _ :: _, _, h, _, _, _, _ => by simp at h
  | _ :: _, [], _, h, _, _, _, _ => by simp at h
  | p :: ps, f :: F, b, hl, hb, hi, hz, hp => by
    refine ⟨hb 0 (by simp), hz 0 (by simp), hp 0 (by simp), ?_⟩
    refine ech_wps ps F (p + 1) (by simpa using hl) (fun i h => ?_) (fun i k hik hk => ?_) (fun i h => ?_) (fun i h => ?_)
    · exact hi 0 (i + 1) (by omega) (by simpa using h)
    · exact hi (i + 1) (k + 1) (by omega) (by simpa using hk)
    · exact hz (i + 1) (by simpa using h)
    · exact hp (i + 1) (by simpa using h)
theorem red_wps : ∀ (ps : List Nat) (F : Mx), ps.length = F.length → (∀ i k, i < k → k < F.length → 0 ≤ eM F i (ps.getD k 0) ∧ eM F i (ps.getD k 0) < eM F k (ps.getD k 0)) → Red (wps ps F)
  | [], [], _, _ => trivial
  | [], _ :: _, h, _ => by simp at h
  | _ :: _, [], h, _ => by simp at h
  | p :: ps, f :: F, hl, hr => by
    refine ⟨fun g hg => ?_, red_wps ps F (by simpa using hl) fun i k hik hk => hr (i + 1) (k + 1) (by omega) (by simpa using hk)⟩
    obtain ⟨x, hx, rfl⟩ := List.mem_map.1 hg
    obtain ⟨i, hi, hxe⟩ := List.getElem_of_mem hx
    have hi' : i < ps.length ∧ i < F.length := by simp at hi; omega
    have := hr 0 (i + 1) (by omega) (by simpa using hi'.2)
    obtain rfl : x = (ps[i]'hi'.1, F[i]'hi'.2) := by rw [← hxe]; exact List.getElem_zip
    simp only [eM, List.getD_cons_succ, List.getD_cons_zero] at this
    rw [getD_get hi'.1, getD_get hi'.2] at this
    exact this
theorem IsH.ech {n : Nat} {ps : List Nat} {F : Mx} (h : IsH n ps F) : Ech 0 (wps ps F) := ech_wps ps F 0 h.len (fun _ _ => Nat.zero_le _) h.inc h.left h.pos
theorem IsH.redu {n : Nat} {ps : List Nat} {F : Mx} (h : IsH n ps F) : Red (wps ps F) := red_wps ps F h.len h.red
theorem vr_inj {n : Nat} {a b : List Int} (ha : a.length = n) (hb : b.length = n) (h : vr a = vr b) : a = b := by
  refine List.ext_getElem (by omega) fun i h1 h2 => ?_
  have := congrFun h i
  simpa only [vr, List.getD_eq_getElem?_getD, List.getElem?_eq_getElem h1, List.getElem?_eq_getElem h2, Option.getD_some] using this
/-- One lattice, one form. -/
theorem IsH.unique {n : Nat} {ps qs : List Nat} {F G : Mx} (hF : IsH n ps F) (hG : IsH n qs G) (h1 : ∀ v ∈ latM F, Span (latM G) v) (h2 : ∀ v ∈ latM G, Span (latM F) v) : F = G ∧ ps = qs := by
  have e := Hnf.unique hF.ech hF.redu hG.ech hG.redu (by rw [wps_rows hF.len, wps_rows hG.len]; exact h1) (by rw [wps_rows hF.len, wps_rows hG.len]; exact h2)
  have e1 : ps = qs := by
    have := congrArg (List.map Prod.fst) e
    unfold wps at this
    rw [List.map_map, List.map_map] at this
    rw [show (Prod.fst ∘ fun x : Nat × List Int => (x.1, vr x.2)) = Prod.fst from rfl, List.map_fst_zip (by have := hF.len; omega), List.map_fst_zip (by have := hG.len; omega)] at this
    exact this
  have e2 : latM F = latM G := by rw [← wps_rows hF.len, ← wps_rows hG.len, e]
  refine ⟨?_, e1⟩
  have hl : F.length = G.length := by have := congrArg List.length e2; simpa [latM] using this
  refine List.ext_getElem hl fun i h3 h4 => ?_
  refine vr_inj (hF.rect _ (List.getElem_mem h3)) (hG.rect _ (List.getElem_mem h4)) ?_
  have := congrArg (fun l => l[i]?) e2
  simpa [latM, h3, h4] using this
/-- The first d rows of lines in echelon form. -/
def fRows (d : Nat) (ls : List Ln) : Mx := (ls.take d).map (·.1)
theorem eM_fRows {d : Nat} {ls : List Ln} {i : Nat} (h : i < d) (j : Nat) (hd : d ≤ ls.length) : eM (fRows d ls) i j = en ls i j := by
  unfold eM fRows en col
  have hi : i < ls.length := by omega
  simp only [List.getD_eq_getElem?_getD, List.getElem?_map, List.getElem?_take, if_pos h, List.getElem?_eq_getElem hi]
  rfl
theorem FormTo.isH {n d m : Nat} {ps : List Nat} {ls : List Ln} (h : FormTo n d ps ls) (hd : Dim n m ls) : IsH n ps (fRows d ls) := by
  have hl : (fRows d ls).length = d := by unfold fRows; have := h.le; simp; omega
  refine ⟨fun r hr => ?_, by rw [hl, h.len], fun i hi => ?_, fun i k hik hk => ?_, fun i hi j hj => ?_, fun i hi => ?_, fun i k hik hk => ?_⟩
  · obtain ⟨l, hl', rfl⟩ := List.mem_map.1 hr; exact (hd l (List.mem_of_mem_take hl')).1
  · rw [hl] at hi; exact h.lt i hi
  · rw [hl] at hk; exact h.inc i k hik hk
  · rw [hl] at hi; rw [eM_fRows hi _ h.le]; exact h.left i hi j hj
  · rw [hl] at hi; rw [eM_fRows hi _ h.le]; exact h.pos i hi
  · rw [hl] at hk; rw [eM_fRows (by omega) _ h.le, eM_fRows hk _ h.le]; exact h.red i k hik hk
theorem FormTo.lat {n d m : Nat} {ps : List Nat} {ls : List Ln} (h : FormTo n d ps ls) (hd : Dim n m ls) : (∀ v ∈ latM (fRows d ls), v ∈ latL ls) ∧ (∀ v ∈ latL ls, Span (latM (fRows d ls)) v) := by
  constructor
  · intro v hv
    obtain ⟨r, hr, rfl⟩ := List.mem_map.1 hv
    obtain ⟨l, hl, rfl⟩ := List.mem_map.1 hr
    exact List.mem_map.2 ⟨l, List.mem_of_mem_take hl, rfl⟩
  · intro v hv
    obtain ⟨l, hl, rfl⟩ := List.mem_map.1 hv
    obtain ⟨i, hi, rfl⟩ := List.getElem_of_mem hl
    rcases Nat.lt_or_ge i d with hid | hid
    · refine .mem (List.mem_map.2 ⟨ls[i].1, List.mem_map.2 ⟨ls[i], ?_, rfl⟩, rfl⟩)
      have : i < (ls.take d).length := by simp; omega
      have h2 := List.getElem_mem this
      rwa [List.getElem_take] at h2
    · have e : vr ls[i].1 = fun _ => 0 := by
        funext j
        rcases Nat.lt_or_ge j n with hj | hj
        · have := h.below i hid hi j hj
          unfold en col at this
          rwa [getD_get hi] at this
        · show ls[i].1.getD j 0 = 0
          rw [List.getD_eq_getElem?_getD, List.getElem?_eq_none (by rw [(hd.get hi).1]; exact hj)]; rfl
      rw [e]; exact .zero
/-- F is the Hermite normal form of M's lattice. -/
def HnfOf (n : Nat) (M F : Mx) : Prop := (∃ ps, IsH n ps F) ∧ (∀ v ∈ latM F, Span (latM M) v) ∧ (∀ v ∈ latM M, Span (latM F) v)
theorem HnfOf.unique {n : Nat} {M M' F F' : Mx} (h : HnfOf n M F) (h' : HnfOf n M' F') (h1 : ∀ v ∈ latM M, Span (latM M') v) (h2 : ∀ v ∈ latM M', Span (latM M) v) : F = F' := by
  obtain ⟨⟨ps, hF⟩, a1, a2⟩ := h
  obtain ⟨⟨qs, hG⟩, b1, b2⟩ := h'
  exact (hF.unique hG (fun v hv => ((a1 v hv).trans h1).trans b2) (fun v hv => ((b1 v hv).trans h2).trans a2)).1
/-- The lines that a matrix begins with: each row with itself alone as its sum. -/
def unitR (m i : Nat) : List Int := (List.replicate m 0).set i 1
def lines0 (M : Mx) : List Ln := M.mapIdx fun i r => (r, unitR M.length i)
@[simp] theorem lines0_length (M : Mx) : (lines0 M).length = M.length := by simp [lines0]
theorem lines0_get {M : Mx} {i : Nat} (h : i < M.length) : (lines0 M)[i]'(by simpa using h) = (M[i], unitR M.length i) := by simp [lines0]
theorem lines0_dim {n : Nat} {M : Mx} (h : Rect n M) : Dim n M.length (lines0 M) := by
  intro l hl
  obtain ⟨i, hi, rfl⟩ := List.getElem_of_mem hl
  have hi' : i < M.length := by simpa using hi
  rw [lines0_get hi']
  exact ⟨h _ (List.getElem_mem hi'), by simp [unitR]⟩
theorem lines0_lat (M : Mx) : latL (lines0 M) = latM M := by
  refine List.ext_getElem (by simp [latL, latM]) fun i h1 h2 => ?_
  have hi : i < M.length := by simpa [latM] using h2
  simp only [latL, latM, List.getElem_map, lines0_get hi]
/-- What echelon leaves is the form of the matrix. -/
theorem form_of {n d : Nat} {ps : List Nat} {M : Mx} {ls : List Ln} (hM : Rect n M) (ho : Ops 0 (lines0 M) ls) (h : FormTo n d ps ls) : HnfOf n M (fRows d ls) := by
  have hd0 := lines0_dim hM
  have hd := hd0.ops ho
  have hl := ho.lat hd0
  rw [lines0_lat] at hl
  have hf := h.lat hd
  exact ⟨⟨ps, h.isH hd⟩, fun v hv => hl.1 v (hf.1 v hv), fun v hv => (hl.2 v hv).trans hf.2⟩
end Go.Proofs.YtnmmglnadnfoiaaGreatDoor
/- Plain parts of Hm1 and Hm3: texts of integers, a row turned. -/
namespace Go.Proofs.YtnmmglnadnfoiaaGreatDoor
open Go.RowKit Go.Sort
theorem grown_frozen_cell {w w' : World} {g b o : Nat} {v : Value} (h : w.grownBy w' (some g)) (hne : b ≠ g) (hc : w.cell? ⟨b, o, none⟩ = some v) : w'.cell? ⟨b, o, none⟩ = some v := by
  have hb : b < w.heap.size := World.block_lt_of_cell? _ _ hc
  have := h.block b hb (by simpa using hne)
  unfold World.cell? at *
  rw [this]; exact hc
theorem I_inj {a b : Int} (h : I a = I b) : a = b := by
  refine itoa_inj ?_
  unfold I S at h
  injection h with h
  have := congrArg (fun b : ByteArray => b.data.toList) h
  simpa using this
/-- The first j elements with the other sign. -/
def negTo (j : Nat) (l : List Int) : List Int := (l.take j).map (fun z => -z) ++ l.drop j
theorem negTo_zero (l : List Int) : negTo 0 l = l := by simp [negTo]
theorem negTo_all (l : List Int) : negTo l.length l = l.map (fun z => -z) := by simp [negTo]
@[simp] theorem negTo_length (j : Nat) (l : List Int) : (negTo j l).length = l.length := by simp [negTo]; omega
theorem negTo_get {j : Nat} {l : List Int} (h : j < l.length) : (negTo j l)[j]'(by simpa using h) = l[j] := by
  unfold negTo
  rw [List.getElem_append_right (by simp; omega)]
  simp [Nat.min_eq_left (Nat.le_of_lt h)]
theorem negTo_step {j : Nat} {l : List Int} (h : j < l.length) : negTo (j + 1) l = (negTo j l).set j (-l[j]) := by
  unfold negTo
  rw [List.set_append_right _ _ (by simp; omega)]
  rw [List.take_add_one, List.map_append, List.append_assoc]
  congr 1
  rw [List.getElem?_eq_getElem h]
  simp only [Option.toList_some, List.map_cons, List.map_nil, List.length_map, List.length_take, Nat.min_eq_left (Nat.le_of_lt h), Nat.sub_self]
  conv => rhs; rw [List.drop_eq_getElem_cons h]
  rfl
end Go.Proofs.YtnmmglnadnfoiaaGreatDoor
/- hermite: lines in memory: a block of headers (two cells a line), each line's two rows in blocks of their own. -/
namespace Go.Proofs.YtnmmglnadnfoiaaGreatDoor
open Go.RowKit Go.Sort
/-- Where a line's rows lie: the blocks and their room. -/
structure Ad where
  gx : Nat
  cx : Nat
  gy : Nat
  cy : Nat
  deriving Inhabited
structure Lns (B : Nat) (w : World) (g : Nat) (ad : List Ad) (ls : List Ln) : Prop where
  len : ad.length = ls.length
  base : B ≤ g
  lt : g < w.heap.size
  fz : ∀ o, w.frozen? ⟨g, o, none⟩ = false
  hx : ∀ i (h : i < ls.length) (h' : i < ad.length), w.cell? ⟨g, 2 * i, none⟩ = some (slv ad[i].gx ls[i].1.length ad[i].cx)
  hy : ∀ i (h : i < ls.length) (h' : i < ad.length), w.cell? ⟨g, 2 * i + 1, none⟩ = some (slv ad[i].gy ls[i].2.length ad[i].cy)
  x : ∀ i (h : i < ls.length) (h' : i < ad.length), OwnV 106 B w ad[i].gx ad[i].cx (ss ls[i].1)
  y : ∀ i (h : i < ls.length) (h' : i < ad.length), OwnV 106 B w ad[i].gy ad[i].cy (ss ls[i].2)
  own : ∀ i (h : i < ad.length), ad[i].gx ≠ g ∧ ad[i].gy ≠ g ∧ ad[i].gx ≠ ad[i].gy
  dis : ∀ i j (hi : i < ad.length) (hj : j < ad.length), i ≠ j → ad[i].gx ≠ ad[j].gx ∧ ad[i].gx ≠ ad[j].gy ∧ ad[i].gy ≠ ad[j].gx ∧ ad[i].gy ≠ ad[j].gy
theorem Lns.ext {B : Nat} {w w' : World} {g : Nat} {ad : List Ad} {ls : List Ln} (h : Lns B w g ad ls) (he : Ext w w') : Lns B w' g ad ls where
  len := h.len
  base := h.base
  lt := Nat.lt_of_lt_of_le h.lt he.size
  fz := fun o => by rw [he.frozen h.lt]; exact h.fz o
  hx := fun i a b => he.cell (h.hx i a b)
  hy := fun i a b => he.cell (h.hy i a b)
  x := fun i a b => (h.x i a b).ext he
  y := fun i a b => (h.y i a b).ext he
  own := h.own
  dis := h.dis
theorem Chg.frozen {R : Nat → Prop} {a b : World} (h : Chg R a b) {g o : Nat} (hg : ¬ R g) (hl : g < a.heap.size) : b.frozen? ⟨g, o, none⟩ = a.frozen? ⟨g, o, none⟩ := by
  have := h.block g hl hg
  unfold World.frozen?
  rw [this]
/-- Line i's rows have been written. -/
theorem Lns.wrote {B : Nat} {w w' : World} {g : Nat} {ad : List Ad} {ls : List Ln} (h : Lns B w g ad ls) {i : Nat} (hi : i < ad.length) (hi' : i < ls.length) {l : Ln} (e1 : l.1.length = ls[i].1.length) (e2 : l.2.length = ls[i].2.length)
    (hX : OwnV 106 B w' ad[i].gx ad[i].cx (ss l.1)) (hY : OwnV 106 B w' ad[i].gy ad[i].cy (ss l.2)) (hC : Chg (fun k => k = ad[i].gx ∨ k = ad[i].gy) w w') : Lns B w' g ad (ls.set i l) := by
  have hown := h.own i hi
  have hg : ¬ (g = ad[i].gx ∨ g = ad[i].gy) := by rintro (e | e); exact hown.1 e.symm; exact hown.2.1 e.symm
  refine ⟨by rw [List.length_set]; exact h.len, h.base, Nat.lt_of_lt_of_le h.lt hC.size, fun o => by rw [hC.frozen hg h.lt]; exact h.fz o, ?_, ?_, ?_, ?_, h.own, h.dis⟩
  · intro j hj hj'
    rw [List.length_set] at hj
    have := hC.cell hg (h.hx j hj hj')
    by_cases hij : i = j
    · subst hij; simp only [List.getElem_set_self]; rw [e1]; exact this
    · simp only [List.getElem_set_ne hij]; exact this
  · intro j hj hj'
    rw [List.length_set] at hj
    have := hC.cell hg (h.hy j hj hj')
    by_cases hij : i = j
    · subst hij; simp only [List.getElem_set_self]; rw [e2]; exact this
    · simp only [List.getElem_set_ne hij]; exact this
  · intro j hj hj'
    rw [List.length_set] at hj
    by_cases hij : i = j
    · subst hij; simp only [List.getElem_set_self]; exact hX
    · simp only [List.getElem_set_ne hij]
      have d := h.dis j i hj' hi (Ne.symm hij)
      exact hC.own (by rintro (e | e); exact d.1 e; exact d.2.1 e) (h.x j hj hj')
  · intro j hj hj'
    rw [List.length_set] at hj
    by_cases hij : i = j
    · subst hij; simp only [List.getElem_set_self]; exact hY
    · simp only [List.getElem_set_ne hij]
      have d := h.dis j i hj' hi (Ne.symm hij)
      exact hC.own (by rintro (e | e); exact d.2.2.1 e; exact d.2.2.2 e) (h.y j hj hj')
end Go.Proofs.YtnmmglnadnfoiaaGreatDoor
/- hermite: one line in memory, exchanged lines; digits of numbers below a power of 2. -/
namespace Go.Proofs.YtnmmglnadnfoiaaGreatDoor
open Go.RowKit Go.Sort
theorem nd_lt2 {z : Int} {E : Nat} (h : z.natAbs < 2 ^ E) : nd z ≤ E + 1 := by
  refine nDigits_le (Nat.lt_of_lt_of_le h ?_) (by omega)
  exact Nat.le_trans (Nat.pow_le_pow_left (by omega) E) (Nat.pow_le_pow_right (by omega) (by omega))
theorem Lns.ln {B : Nat} {w : World} {g n m d i o c : Nat} {ad : List Ad} {ls : List Ln} (h : Lns B w g ad ls) (hd : Dim n m ls) (hi : d + i < ls.length) (ho : o = 2 * d + i * 2) (hc : c < n) :
    ∃ (gx cx gy cy : Nat), ad[d + i]? = some ⟨gx, cx, gy, cy⟩ ∧ w.cell? ⟨g, o, none⟩ = some (slv gx n cx) ∧ w.cell? ⟨g, o + 1, none⟩ = some (slv gy m cy)
      ∧ w.cell? ⟨gx, c, none⟩ = some (I (cols c d ls i)) ∧ OwnV 106 B w gx cx (ss (ls.getD (d + i) default).1) ∧ OwnV 106 B w gy cy (ss (ls.getD (d + i) default).2) ∧ gx ≠ g ∧ gy ≠ g ∧ gx ≠ gy := by
  have hi' : d + i < ad.length := by rw [h.len]; exact hi
  have hh := hd.get hi
  have e := getD_get hi default
  have hX := h.x (d + i) hi hi'
  have ho' : o = 2 * (d + i) := by omega
  subst ho'
  refine ⟨ad[d + i].gx, ad[d + i].cx, ad[d + i].gy, ad[d + i].cy, by rw [List.getElem?_eq_getElem hi'], ?_, ?_, ?_, ?_, ?_, (h.own _ hi').1, (h.own _ hi').2.1, (h.own _ hi').2.2⟩
  · have := h.hx (d + i) hi hi'; rwa [hh.1] at this
  · have := h.hy (d + i) hi hi'; rwa [hh.2] at this
  · rw [hX.cell (j := c) (by simp; omega)]
    unfold cols col
    rw [e, getD_get (by omega)]
    simp [ss]
  · rw [e]; exact hX
  · rw [e]; exact h.y (d + i) hi hi'
def swpA (ad : List Ad) (i j : Nat) : List Ad := (ad.set i (ad.getD j default)).set j (ad.getD i default)
@[simp] theorem swpA_length (ad : List Ad) (i j : Nat) : (swpA ad i j).length = ad.length := by simp [swpA]
def sg (i j t : Nat) : Nat := if t = j then i else if t = i then j else t
theorem sg_lt {i j t n : Nat} (hi : i < n) (hj : j < n) (ht : t < n) : sg i j t < n := by unfold sg; split <;> (try split) <;> omega
theorem sg_inj {i j t u : Nat} (h : sg i j t = sg i j u) : t = u := by unfold sg at h; split at h <;> split at h <;> (try split at h) <;> (try split at h) <;> omega
theorem swp_get {ls : List Ln} {i j : Nat} (hi : i < ls.length) (hj : j < ls.length) {t : Nat} (ht : t < (swp ls i j).length) : (swp ls i j)[t] = ls[sg i j t]'(sg_lt hi hj (by simpa using ht)) := by
  have := swp_getD ls hi hj t
  rw [getD_get ht] at this
  rw [this]
  unfold sg
  split
  · rw [getD_get hi]
  · split
    · rw [getD_get hj]
    · rw [getD_get (by simpa using ht)]
theorem swpA_get {ad : List Ad} {i j : Nat} (hi : i < ad.length) (hj : j < ad.length) {t : Nat} (ht : t < (swpA ad i j).length) : (swpA ad i j)[t] = ad[sg i j t]'(sg_lt hi hj (by simpa using ht)) := by
  have : (swpA ad i j).getD t default = if t = j then ad.getD i default else if t = i then ad.getD j default else ad.getD t default := by
    unfold swpA
    rw [getD_set _ _ _ _ _ (by simpa using hj), getD_set _ _ _ _ _ hi]
  rw [getD_get ht] at this
  rw [this]
  unfold sg
  split
  · rw [getD_get hi]
  · split
    · rw [getD_get hj]
    · rw [getD_get (by simpa using ht)]
/-- Two headers have been exchanged. -/
theorem Lns.swapped {B : Nat} {w w' : World} {g : Nat} {ad : List Ad} {ls : List Ln} (h : Lns B w g ad ls) {i j : Nat} (hi : i < ls.length) (hj : j < ls.length) (hG : w.grownBy w' (some g)) (hf : ∀ o, w'.frozen? ⟨g, o, none⟩ = false)
    (hc : ∀ t, t < ls.length → w'.cell? ⟨g, 2 * t, none⟩ = w.cell? ⟨g, 2 * sg i j t, none⟩ ∧ w'.cell? ⟨g, 2 * t + 1, none⟩ = w.cell? ⟨g, 2 * sg i j t + 1, none⟩) : Lns B w' g (swpA ad i j) (swp ls i j) := by
  have hai : i < ad.length := by rw [h.len]; exact hi
  have haj : j < ad.length := by rw [h.len]; exact hj
  have hs : ∀ t, t < ls.length → sg i j t < ls.length := fun t ht => sg_lt hi hj ht
  have hsa : ∀ t, t < ls.length → sg i j t < ad.length := fun t ht => by rw [h.len]; exact hs t ht
  refine ⟨by simp [h.len], h.base, Nat.lt_of_lt_of_le h.lt hG.size, hf, fun t a b => ?_, fun t a b => ?_, fun t a b => ?_, fun t a b => ?_, fun t a => ?_, fun t u a b htu => ?_⟩
  · have ht : t < ls.length := by simpa using a
    rw [(hc t ht).1, swpA_get hai haj b, swp_get hi hj a]; exact h.hx _ (hs t ht) (hsa t ht)
  · have ht : t < ls.length := by simpa using a
    rw [(hc t ht).2, swpA_get hai haj b, swp_get hi hj a]; exact h.hy _ (hs t ht) (hsa t ht)
  · have ht : t < ls.length := by simpa using a
    rw [swpA_get hai haj b, swp_get hi hj a]; exact (h.x _ (hs t ht) (hsa t ht)).other hG (h.own _ (hsa t ht)).1
  · have ht : t < ls.length := by simpa using a
    rw [swpA_get hai haj b, swp_get hi hj a]; exact (h.y _ (hs t ht) (hsa t ht)).other hG (h.own _ (hsa t ht)).2.1
  · have ht : t < ls.length := by rw [← h.len]; simpa using a
    rw [swpA_get hai haj a]; exact h.own _ (hsa t ht)
  · have ht : t < ls.length := by rw [← h.len]; simpa using a
    have hu : u < ls.length := by rw [← h.len]; simpa using b
    rw [swpA_get hai haj a, swpA_get hai haj b]
    exact h.dis _ _ (hsa t ht) (hsa u hu) (fun e => htu (sg_inj e))
theorem grown_set (w : World) (b i : Nat) (v : Value) : w.grownBy (w.setCell ⟨b, i, none⟩ v) (some b) :=
  ⟨rfl, rfl, rfl, by simp [World.setCell], fun k _ hk => Below.heap_setCell _ _ _ _ (fun e => hk (by simp [e]))⟩
/-- The two headers at d and d + p after 'l[0], l[p] = l[p], l[0]'. -/
theorem Lns.swap4 {B : Nat} {w : World} {g n m d p o gx cx gy cy gxp cxp gyp cyp : Nat} {ad : List Ad} {ls : List Ln} (h : Lns B w g ad ls) (hp0 : 0 < p) (hl : d + p < ls.length) (ho : 2 * d + p * 2 = o)
    (c1 : w.cell? ⟨g, 2 * d, none⟩ = some (slv gx n cx)) (c2 : w.cell? ⟨g, 2 * d + 1, none⟩ = some (slv gy m cy)) (c1p : w.cell? ⟨g, o, none⟩ = some (slv gxp n cxp)) (c2p : w.cell? ⟨g, o + 1, none⟩ = some (slv gyp m cyp)) :
    Lns B ((((w.setCell ⟨g, 2 * d, none⟩ (slv gxp n cxp)).setCell ⟨g, 2 * d + 1, none⟩ (slv gyp m cyp)).setCell ⟨g, o, none⟩ (slv gx n cx)).setCell ⟨g, o + 1, none⟩ (slv gy m cy)) g (swpA ad d (d + p)) (swp ls d (d + p))
      ∧ w.grownBy ((((w.setCell ⟨g, 2 * d, none⟩ (slv gxp n cxp)).setCell ⟨g, 2 * d + 1, none⟩ (slv gyp m cyp)).setCell ⟨g, o, none⟩ (slv gx n cx)).setCell ⟨g, o + 1, none⟩ (slv gy m cy)) (some g) := by
  have ne : ∀ {a b : Nat}, a ≠ b → (⟨g, a, none⟩ : Addr) ≠ ⟨g, b, none⟩ := fun h e => h (by injection e)
  obtain ⟨w1, e1⟩ : ∃ w1, w1 = w.setCell ⟨g, 2 * d, none⟩ (slv gxp n cxp) := ⟨_, rfl⟩
  obtain ⟨w2, e2⟩ : ∃ w2, w2 = w1.setCell ⟨g, 2 * d + 1, none⟩ (slv gyp m cyp) := ⟨_, rfl⟩
  obtain ⟨w3, e3⟩ : ∃ w3, w3 = w2.setCell ⟨g, o, none⟩ (slv gx n cx) := ⟨_, rfl⟩
  obtain ⟨w4, e4⟩ : ∃ w4, w4 = w3.setCell ⟨g, o + 1, none⟩ (slv gy m cy) := ⟨_, rfl⟩
  rw [← e1, ← e2, ← e3, ← e4]
  have hG : w.grownBy w4 (some g) := by
    rw [e4, e3, e2, e1]
    exact grown_trans (grown_trans (grown_trans (grown_set _ _ _ _) (grown_set _ _ _ _)) (grown_set _ _ _ _)) (grown_set _ _ _ _)
  have a1 : ∀ t, t ≠ 2 * d → w1.cell? ⟨g, t, none⟩ = w.cell? ⟨g, t, none⟩ := fun t ht => by rw [e1, World.cell?_setCell_other (h := ne (Ne.symm ht))]
  have a2 : ∀ t, t ≠ 2 * d + 1 → w2.cell? ⟨g, t, none⟩ = w1.cell? ⟨g, t, none⟩ := fun t ht => by rw [e2, World.cell?_setCell_other (h := ne (Ne.symm ht))]
  have a3 : ∀ t, t ≠ o → w3.cell? ⟨g, t, none⟩ = w2.cell? ⟨g, t, none⟩ := fun t ht => by rw [e3, World.cell?_setCell_other (h := ne (Ne.symm ht))]
  have a4 : ∀ t, t ≠ o + 1 → w4.cell? ⟨g, t, none⟩ = w3.cell? ⟨g, t, none⟩ := fun t ht => by rw [e4, World.cell?_setCell_other (h := ne (Ne.symm ht))]
  have b1 : w4.cell? ⟨g, 2 * d, none⟩ = some (slv gxp n cxp) := by
    rw [a4 _ (by omega), a3 _ (by omega), a2 _ (by omega), e1, World.cell?_setCell_same (h := c1)]
  have b2 : w4.cell? ⟨g, 2 * d + 1, none⟩ = some (slv gyp m cyp) := by
    rw [a4 _ (by omega), a3 _ (by omega), e2, World.cell?_setCell_same (h := by rw [a1 _ (by omega)]; exact c2)]
  have b3 : w4.cell? ⟨g, o, none⟩ = some (slv gx n cx) := by
    rw [a4 _ (by omega), e3, World.cell?_setCell_same (h := by rw [a2 _ (by omega), a1 _ (by omega)]; exact c1p)]
  have b4 : w4.cell? ⟨g, o + 1, none⟩ = some (slv gy m cy) := by
    rw [e4, World.cell?_setCell_same (h := by rw [a3 _ (by omega), a2 _ (by omega), a1 _ (by omega)]; exact c2p)]
  refine ⟨h.swapped (by omega) hl hG (fun t => by rw [e4, e3, e2, e1]; simpa using h.fz t) (fun t ht => ?_), hG⟩
  unfold sg
  by_cases h1 : t = d + p
  · subst h1
    rw [if_pos rfl, show 2 * (d + p) = o by omega, b3, b4, c1, c2]; exact ⟨rfl, rfl⟩
  · rw [if_neg h1]
    by_cases h2 : t = d
    · subst h2
      rw [if_pos rfl, show 2 * (t + p) = o by omega, b1, b2, c1p, c2p]; exact ⟨rfl, rfl⟩
    · rw [if_neg h2, a4 _ (by omega), a3 _ (by omega), a2 _ (by omega), a1 _ (by omega), a4 _ (by omega), a3 _ (by omega), a2 _ (by omega), a1 _ (by omega)]
      exact ⟨rfl, rfl⟩
/-- .. and where p is 0. -/
theorem Lns.swap0 {B : Nat} {w : World} {g n m d gx cx gy cy : Nat} {ad : List Ad} {ls : List Ln} (h : Lns B w g ad ls) (hl : d < ls.length)
    (c1 : w.cell? ⟨g, 2 * d, none⟩ = some (slv gx n cx)) (c2 : w.cell? ⟨g, 2 * d + 1, none⟩ = some (slv gy m cy)) :
    Lns B ((((w.setCell ⟨g, 2 * d, none⟩ (slv gx n cx)).setCell ⟨g, 2 * d + 1, none⟩ (slv gy m cy)).setCell ⟨g, 2 * d, none⟩ (slv gx n cx)).setCell ⟨g, 2 * d + 1, none⟩ (slv gy m cy)) g (swpA ad d (d + 0)) (swp ls d (d + 0))
      ∧ w.grownBy ((((w.setCell ⟨g, 2 * d, none⟩ (slv gx n cx)).setCell ⟨g, 2 * d + 1, none⟩ (slv gy m cy)).setCell ⟨g, 2 * d, none⟩ (slv gx n cx)).setCell ⟨g, 2 * d + 1, none⟩ (slv gy m cy)) (some g) := by
  have ne : ∀ {a b : Nat}, a ≠ b → (⟨g, a, none⟩ : Addr) ≠ ⟨g, b, none⟩ := fun h e => h (by injection e)
  have hset : ∀ (w : World) (t : Nat) (v : Value), w.cell? ⟨g, t, none⟩ = some v → ∀ u, (w.setCell ⟨g, t, none⟩ v).cell? ⟨g, u, none⟩ = w.cell? ⟨g, u, none⟩ := fun w t v hv u => by
    by_cases e : u = t
    · subst e; rw [World.cell?_setCell_same (h := hv), hv]
    · rw [World.cell?_setCell_other (h := ne (Ne.symm e))]
  obtain ⟨w1, e1⟩ : ∃ w1, w1 = w.setCell ⟨g, 2 * d, none⟩ (slv gx n cx) := ⟨_, rfl⟩
  obtain ⟨w2, e2⟩ : ∃ w2, w2 = w1.setCell ⟨g, 2 * d + 1, none⟩ (slv gy m cy) := ⟨_, rfl⟩
  obtain ⟨w3, e3⟩ : ∃ w3, w3 = w2.setCell ⟨g, 2 * d, none⟩ (slv gx n cx) := ⟨_, rfl⟩
  obtain ⟨w4, e4⟩ : ∃ w4, w4 = w3.setCell ⟨g, 2 * d + 1, none⟩ (slv gy m cy) := ⟨_, rfl⟩
  rw [← e1, ← e2, ← e3, ← e4]
  have hG : w.grownBy w4 (some g) := by
    rw [e4, e3, e2, e1]
    exact grown_trans (grown_trans (grown_trans (grown_set _ _ _ _) (grown_set _ _ _ _)) (grown_set _ _ _ _)) (grown_set _ _ _ _)
  have a1 : ∀ t, w1.cell? ⟨g, t, none⟩ = w.cell? ⟨g, t, none⟩ := by rw [e1]; exact hset _ _ _ c1
  have a2 : ∀ t, w2.cell? ⟨g, t, none⟩ = w.cell? ⟨g, t, none⟩ := fun t => by rw [e2, hset _ _ _ (by rw [a1]; exact c2), a1]
  have a3 : ∀ t, w3.cell? ⟨g, t, none⟩ = w.cell? ⟨g, t, none⟩ := fun t => by rw [e3, hset _ _ _ (by rw [a2]; exact c1), a2]
  have a4 : ∀ t, w4.cell? ⟨g, t, none⟩ = w.cell? ⟨g, t, none⟩ := fun t => by rw [e4, hset _ _ _ (by rw [a3]; exact c2), a3]
  refine ⟨h.swapped hl (by omega) hG (fun t => by rw [e4, e3, e2, e1]; simpa using h.fz t) (fun t ht => ?_), hG⟩
  rw [a4, a4]
  have : sg d (d + 0) t = t := by unfold sg; split <;> (try split) <;> omega
  rw [this]; exact ⟨rfl, rfl⟩
end Go.Proofs.YtnmmglnadnfoiaaGreatDoor
/- Numbers of digits of what a row is reduced by. -/
namespace Go.Proofs.YtnmmglnadnfoiaaGreatDoor
open Go.RowKit Go.Sort
theorem less_big {E : Nat} {q : Int} {a b : List Int} (ha : ∀ z ∈ a, z.natAbs < 2 ^ E) (hb : ∀ z ∈ b, z.natAbs < 2 ^ E) (hq : q.natAbs < 2 ^ E) (hE : 2 * E + 2 < LIM) :
    ∀ (i : Nat) (h : i < b.length) (h' : i < a.length), nd a[i] < LIM ∧ nd (q * b[i]) < LIM ∧ nd q + nd b[i] ≤ LIM := by
  intro i h h'
  have h1 := nd_lt2 (ha _ (List.getElem_mem h'))
  have h2 := nd_lt2 (hb _ (List.getElem_mem h))
  have h3 := nd_lt2 hq
  have h4 := nd_mul q b[i]
  omega
end Go.Proofs.YtnmmglnadnfoiaaGreatDoor
/- Matrices in memory. -/
namespace Go.Proofs.YtnmmglnadnfoiaaGreatDoor
open Go.RowKit Go.Sort
/-- A value that reads as a row of ints. -/
def RowR (w : World) (v : Value) (r : List Int) : Prop := ∃ sa gb go cap, v = .slice sa r.length cap ∧ r.length ≤ cap ∧ Sl w sa gb go (is r)
/-- A value that reads as a matrix. -/
def MatR (w : World) (v : Value) (M : Mx) : Prop := ∃ sa gb go cap vs, v = .slice sa M.length cap ∧ M.length ≤ cap ∧ vs.length = M.length ∧ Sl w sa gb go vs ∧ ∀ i (h : i < M.length) (h' : i < vs.length), RowR w vs[i] M[i]
theorem RowR.ext {w w' : World} {v : Value} {r : List Int} (h : RowR w v r) (he : Ext w w') : RowR w' v r := by
  obtain ⟨sa, gb, go, cap, e, hc, hs⟩ := h; exact ⟨sa, gb, go, cap, e, hc, hs.ext he⟩
theorem MatR.ext {w w' : World} {v : Value} {M : Mx} (h : MatR w v M) (he : Ext w w') : MatR w' v M := by
  obtain ⟨sa, gb, go, cap, vs, e, hc, hl, hs, hr⟩ := h; exact ⟨sa, gb, go, cap, vs, e, hc, hl, hs.ext he, fun i a b => (hr i a b).ext he⟩
/-- Numbers that an int can hold. -/
def I64 (z : Int) : Prop := -9223372036854775808 ≤ z ∧ z ≤ 9223372036854775807
/-- Row i's header and elements. -/
theorem MatR.row {w : World} {sa : Option Addr} {gb go : Nat} {vs : List Value} {M : Mx} (hS : Sl w sa gb go vs) (hl : vs.length = M.length) (hr : ∀ i (h : i < M.length) (h' : i < vs.length), RowR w vs[i] M[i]) {i : Nat} (hi : i < M.length) :
    ∃ sa' gb' go' cap', w.cell? ⟨gb, go + i, none⟩ = some (.slice sa' M[i].length cap') ∧ M[i].length ≤ cap' ∧ Sl w sa' gb' go' (is M[i]) := by
  have hi' : i < vs.length := by omega
  obtain ⟨sa', gb', go', cap', e, hc, hs⟩ := hr i hi hi'
  exact ⟨sa', gb', go', cap', by rw [hS.cell i _ (List.getElem?_eq_getElem hi'), e], hc, hs⟩
/-- A row that may be empty: then it is nil. -/
def xv (n g cap : Nat) : Value := if n = 0 then .slice none 0 0 else slv g n cap
theorem xv_zero (g cap : Nat) : xv 0 g cap = .slice none 0 0 := rfl
theorem xv_pos {n : Nat} (h : 0 < n) (g cap : Nat) : xv n g cap = slv g n cap := by unfold xv; rw [if_neg (by omega)]
def hdrs (n m : Nat) (ad : List Ad) : List Value := ad.flatMap fun a => [xv n a.gx a.cx, slv a.gy m a.cy]
theorem hdrs_snoc (n m : Nat) (ad : List Ad) (a : Ad) : hdrs n m (ad ++ [a]) = hdrs n m ad ++ [xv n a.gx a.cx, slv a.gy m a.cy] := by simp [hdrs]
theorem hdrs_get (n m : Nat) : ∀ (ad : List Ad) (i : Nat) (h : i < ad.length), (hdrs n m ad)[2 * i]? = some (xv n ad[i].gx ad[i].cx) ∧ (hdrs n m ad)[2 * i + 1]? = some (slv ad[i].gy m ad[i].cy)
  | [], i, h => by simp at h
  | a :: ad, 0, h => by simp [hdrs]
  | a :: ad, i + 1, h => by
    have := hdrs_get n m ad i (by simpa using h)
    simp only [hdrs, List.flatMap_cons, List.getElem_cons_succ] at this ⊢
    rw [show 2 * (i + 1) = 2 * i + 2 by omega, show 2 * i + 2 + 1 = 2 * i + 1 + 2 by omega]
    simpa using this
theorem ownsRow_ext {w w' : World} {base : Nat} {e : TypeId} {size n : Nat} {v : Value} {xs : List Value} (h : w.ownsRow base e size v n xs) (he : Ext w w') : w'.ownsRow base e size v n xs :=
  World.ownsRow.kept h (grown_ext he none) (by by_cases hv : v.ownBlock = none; exact .inl hv; exact .inr hv)
end Go.Proofs.YtnmmglnadnfoiaaGreatDoor
/- A row of integers that is being made (also a nil one). -/
namespace Go.Proofs.YtnmmglnadnfoiaaGreatDoor
open Go.RowKit Go.Sort
theorem xv_own (n g cap : Nat) : (xv n g cap).ownBlock = if n = 0 then none else some g := by
  unfold xv; split <;> rfl
theorem w6_frozen {Y W5 w6 : World} {T : Nat} {o : Obj} {row : Option Nat} (hW5 : Ext Y.drew W5) (t2 : Y.frozen? ⟨T, 0, none⟩ = false) (t3 : T < Y.heap.size) (hg : (W5.alloc o).grownBy w6 row) (hne : some T ≠ row) : w6.frozen? ⟨T, 0, none⟩ = false := by
  have h5 : T < W5.heap.size := Nat.lt_of_lt_of_le t3 hW5.size
  rw [hg.frozen_far ⟨T, 0, none⟩ (by simp; omega) hne, ((Ext.refl W5).alloc o).frozen h5, hW5.frozen t3]
  exact t2
theorem lrow_step {X Y W5 w6 : World} {T gy cy gx cx j L cap2 gg : Nat} {z : Int} {r u : List Int} (hjl : j < r.length) (hz : z = r.getD j 0) (hyT : gy < T) (hXT : X.heap.size ≤ T)
    (t1 : Y.cell? ⟨T, 1, none⟩ = some (slv gy L cy)) (t3 : T < Y.heap.size)
    (hOx : Y.ownsRow X.heap.size 106 1 (xv j gx cx) j (ss (r.take j))) (hNe : 0 < j → gx ≠ T ∧ gx ≠ gy) (hOy : OwnV 106 X.heap.size Y gy cy (ss u)) (hE : Ext X Y) (hW5 : Ext Y.drew W5)
    (hTo : some T ≠ (xv j gx cx).ownBlock)
    (hown6 : w6.ownsRow X.heap.size 106 1 (slv gg (j + 1) cap2) (j + 1) (ss (r.take j) ++ [I z])) (hgrow6 : (W5.alloc (.cells #[I z] 106)).grownBy w6 (xv j gx cx).ownBlock)
    (hat6 : (xv j gx cx).ownBlock = some gg ∨ gg = W5.heap.size + 1) (t6 : w6.cell? ⟨T, 0, none⟩ = some (xv j gx cx)) (f6 : w6.frozen? ⟨T, 0, none⟩ = false) :
    (w6.setCell ⟨T, 0, none⟩ (slv gg (j + 1) cap2)).cell? ⟨T, 0, none⟩ = some (xv (j + 1) gg cap2) ∧ (w6.setCell ⟨T, 0, none⟩ (slv gg (j + 1) cap2)).cell? ⟨T, 1, none⟩ = some (slv gy L cy) ∧ (w6.setCell ⟨T, 0, none⟩ (slv gg (j + 1) cap2)).frozen? ⟨T, 0, none⟩ = false
      ∧ T < (w6.setCell ⟨T, 0, none⟩ (slv gg (j + 1) cap2)).heap.size
      ∧ Hid ((w6.setCell ⟨T, 0, none⟩ (slv gg (j + 1) cap2)).ownsRow X.heap.size 106 1 (xv (j + 1) gg cap2) (j + 1) (ss (r.take (j + 1)))) ∧ Hid (0 < j + 1 → gg ≠ T ∧ gg ≠ gy)
      ∧ Hid (OwnV 106 X.heap.size (w6.setCell ⟨T, 0, none⟩ (slv gg (j + 1) cap2)) gy cy (ss u)) ∧ Hid (Ext X (w6.setCell ⟨T, 0, none⟩ (slv gg (j + 1) cap2))) := by
  have h5 : Y.heap.size ≤ W5.heap.size := hW5.size
  have hE5 : Ext Y (W5.alloc (.cells #[I z] 106)) := (((Ext.refl Y).drew).trans hW5).alloc _
  have hgT : gg ≠ T := by
    rcases hat6 with h | h
    · rw [h] at hTo; exact fun e => hTo (by rw [e])
    · omega
  have hgy : gg ≠ gy := by
    rcases hat6 with h | h
    · rw [xv_own] at h
      split at h
      · cases h
      · injection h with h; subst h; exact (hNe (by omega)).2
    · omega
  have hrow : ∀ q, (xv j gx cx).ownBlock = some q → X.heap.size ≤ q := fun q hq => (World.ownsRow.lt hOx q hq).1
  have hE6 : Ext X w6 := Ext.mk' (Below.grown (hE.trans hE5) hgrow6 (hE.trans hE5).size hrow)
  have hyo : (xv j gx cx).ownBlock ≠ some gy := by
    rw [xv_own]
    split
    · simp
    · intro e; injection e with e; exact (hNe (by omega)).2 e
  have hOy6 : OwnV 106 X.heap.size w6 gy cy (ss u) := World.ownsRow.kept (hOy.ext hE5) hgrow6 (.inr (fun e => hyo e.symm))
  have t16 : w6.cell? ⟨T, 1, none⟩ = some (slv gy L cy) := hgrow6.cell (hE5.cell t1) hTo
  have hTs : T < w6.heap.size := Nat.lt_of_lt_of_le t3 (Nat.le_trans hE5.size hgrow6.size)
  refine ⟨?_, ?_, ?_, ?_, Lib.hid ?_, Lib.hid (fun _ => ⟨hgT, hgy⟩), Lib.hid ?_, Lib.hid ?_⟩
  · rw [World.cell?_setCell_same (h := t6), xv_pos (by omega)]
  · rw [World.cell?_setCell_other (h := by simp)]; exact t16
  · rw [World.frozen?_setCell]; exact f6
  · simpa using hTs
  · rw [xv_pos (by omega)]
    have e : ss (r.take (j + 1)) = ss (r.take j) ++ [I z] := by
      rw [List.take_succ_eq_append_getElem hjl, hz, getD_get hjl]; simp only [ss, List.map_append, List.map_cons, List.map_nil]
    rw [e]
    exact World.ownsRow.kept hown6 (grown_set w6 T 0 _) (.inr (by intro e; injection e with e; exact hgT e))
  · exact hOy6.other (grown_set w6 T 0 _) (by omega)
  · exact hE6.setCell hXT _
theorem line_one (n g c g' m c' : Nat) : ∀ u ∈ [xv n g c, slv g' m c'], u.oneCell' = true := by
  intro u hu
  simp only [List.mem_cons, List.not_mem_nil, or_false] at hu
  rcases hu with rfl | rfl
  · unfold xv; split <;> rfl
  · rfl
end Go.Proofs.YtnmmglnadnfoiaaGreatDoor
/- slices.IndexFunc, slices.ContainsFunc. Printed by gen_fnd.py. -/
namespace Go.Proofs.YtnmmglnadnfoiaaGreatDoor
/-- k is the first index below n at which p is true, or -1. -/
def IxR (p : Nat → Bool) (n : Nat) (k : Int) : Prop := (k = -1 ∧ ∀ i, i < n → p i = false) ∨ ∃ i : Nat, i < n ∧ k = (i : Int) ∧ p i = true ∧ ∀ j, j < i → p j = false
theorem IxR_ex (p : Nat → Bool) : ∀ n, ∃ k, IxR p n k
  | 0 => ⟨-1, .inl ⟨rfl, fun i h => by omega⟩⟩
  | n + 1 => by
    obtain ⟨k, h | ⟨i, hi, e, hp, hj⟩⟩ := IxR_ex p n
    · cases hn : p n
      · exact ⟨-1, .inl ⟨rfl, fun i hi => by
          by_cases e : i = n
          · subst e; exact hn
          · exact h.2 i (by omega)⟩⟩
      · exact ⟨n, .inr ⟨n, by omega, rfl, hn, h.2⟩⟩
    · exact ⟨k, .inr ⟨i, by omega, e, hp, hj⟩⟩
theorem IxR_no {p : Nat → Bool} {n : Nat} {k : Int} (h : IxR p n k) (hp : ∀ i, i < n → p i = false) : k = -1 := by
  rcases h with h | ⟨i, hi, _, hpi, _⟩
  · exact h.1
  · rw [hp i hi] at hpi; cases hpi
theorem IxR_at {p : Nat → Bool} {n i : Nat} {k : Int} (h : IxR p n k) (hi : i < n) (hp : p i = true) (hj : ∀ j, j < i → p j = false) : k = i := by
  rcases h with h | ⟨t, ht, e, hpt, hjt⟩
  · rw [h.2 i hi] at hp; cases hp
  · rcases Nat.lt_trichotomy i t with h | h | h
    · rw [hjt i h] at hp; cases hp
    · rw [e, h]
    · rw [hj t h] at hpt; cases hpt
def anyB (p : Nat → Bool) (n : Nat) : Bool := (List.range n).any p
theorem anyB_iff {p : Nat → Bool} {n : Nat} : anyB p n = true ↔ ∃ i, i < n ∧ p i = true := by simp [anyB]
theorem anyB_no {p : Nat → Bool} {n : Nat} (h : ∀ i, i < n → p i = false) : anyB p n = false := by
  cases hb : anyB p n
  · rfl
  · obtain ⟨i, hi, hp⟩ := anyB_iff.1 hb; rw [h i hi] at hp; cases hp
theorem anyB_false {p : Nat → Bool} {n : Nat} (h : anyB p n = false) : ∀ i, i < n → p i = false := fun i hi => by
  cases hp : p i
  · rfl
  · rw [anyB_iff.2 ⟨i, hi, hp⟩] at h; cases h
theorem IxR_ge {p : Nat → Bool} {n : Nat} {k : Int} (h : IxR p n k) : decide (0 ≤ k) = anyB p n := by
  rcases h with ⟨rfl, h⟩ | ⟨i, hi, rfl, hp, _⟩
  · rw [anyB_no h]; rfl
  · rw [anyB_iff.2 ⟨i, hi, hp⟩]; exact decide_eq_true (by omega)
end Go.Proofs.YtnmmglnadnfoiaaGreatDoor
