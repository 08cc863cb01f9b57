/- Part 11 of the proof of the claim: contracts of the functions that it reaches, and plain laws; no condition. -/
import Derived.Test.YthmhmkkcjlgbjaaGreatDoorV09
import Derived.Test.YthmhmkkcjlgbjaaGreatDoorV10
/- Plain: row operations keep the lattice; the echelon form is the Hermite normal form, and there is one alone. -/
namespace Go.Proofs.YthmhmkkcjlgbjaaGreatDoor
open Hnf (V Span Ech Red)
/-- A row as a function of the column. -/
def vr (r : List Int) : V := fun j => r.getD j 0
def latL (ls : List Ln) : List V := ls.map fun l => vr l.1
theorem lat_get {ls : List Ln} {i : Nat} (h : i < ls.length) : vr ls[i].1 ∈ latL ls := List.mem_map.2 ⟨ls[i], List.getElem_mem h, rfl⟩
theorem vr_sub (k : Int) {a b : List Int} (h : b.length ≤ a.length) : vr (subK k a b) = Hnf.sub (vr a) k (vr b) := by
  funext j; exact subK_getD k a b j h
theorem vr_neg (a : List Int) : vr (a.map fun z => -z) = Hnf.sub (fun _ => 0) 1 (vr a) := by
  funext j; have := col_lneg j (a, []); simp only [col, lneg] at this; simp only [vr, Hnf.sub]; omega
theorem lat_set {ls : List Ln} {i : Nat} {l : Ln} {v : V} (h : v ∈ latL (ls.set i l)) : v = vr l.1 ∨ v ∈ latL ls := by
  obtain ⟨x, hx, rfl⟩ := List.mem_map.1 h
  rcases List.mem_or_eq_of_mem_set hx with hx | rfl
  · exact .inr (List.mem_map.2 ⟨x, hx, rfl⟩)
  · exact .inl rfl
theorem Step.lat {d n m : Nat} {a b : List Ln} (h : Step d a b) (hd : Dim n m a) : (∀ v ∈ latL b, Span (latL a) v) ∧ (∀ v ∈ latL a, Span (latL b) v) := by
  cases h with
  | swap p q hp hq dp dq =>
    constructor
    · intro v hv
      rcases lat_set hv with rfl | hv
      · exact .mem (lat_get hp)
      · rcases lat_set hv with rfl | hv
        · exact .mem (lat_get hq)
        · exact .mem hv
    · intro v hv
      obtain ⟨l, hl, rfl⟩ := List.mem_map.1 hv
      obtain ⟨i, hi, rfl⟩ := List.getElem_of_mem hl
      by_cases e : i = p
      · subst e
        have h1 : q < ((a.set i a[q]).set q a[i]).length := by simpa using hq
        have := lat_get h1
        rw [List.getElem_set_self] at this
        exact .mem this
      · by_cases e2 : i = q
        · subst e2
          have h1 : p < ((a.set p a[i]).set i a[p]).length := by simpa using hp
          have := lat_get h1
          rw [List.getElem_set_ne (by omega), List.getElem_set_self] at this
          exact .mem this
        · have h1 : i < ((a.set p a[q]).set q a[p]).length := by simpa using hi
          have := lat_get h1
          rw [List.getElem_set_ne (by omega), List.getElem_set_ne (by omega)] at this
          exact .mem this
  | sub p q k hp hq hpq dp dq =>
    have hlen : a[q].1.length ≤ a[p].1.length := by rw [(hd.get hp).1, (hd.get hq).1]; exact Nat.le_refl _
    constructor
    · intro v hv
      rcases lat_set hv with rfl | hv
      · show Span _ (vr (subK k a[p].1 a[q].1))
        rw [vr_sub k hlen]
        exact .step k (.mem (lat_get hp)) (lat_get hq)
      · exact .mem hv
    · intro v hv
      obtain ⟨l, hl, rfl⟩ := List.mem_map.1 hv
      obtain ⟨i, hi, rfl⟩ := List.getElem_of_mem hl
      have hq' : vr a[q].1 ∈ latL (a.set p (lsub k a[p] a[q])) := by
        have h1 : q < (a.set p (lsub k a[p] a[q])).length := by simpa using hq
        have := lat_get h1
        rwa [List.getElem_set_ne hpq] at this
      by_cases e : i = p
      · subst e
        have h1 : i < (a.set i (lsub k a[i] a[q])).length := by simpa using hi
        have := lat_get h1
        rw [List.getElem_set_self] at this
        have h2 := Span.step (-k) (.mem this) hq'
        have e : Hnf.sub (vr (lsub k a[i] a[q]).1) (-k) (vr a[q].1) = vr a[i].1 := by
          show Hnf.sub (vr (subK k a[i].1 a[q].1)) (-k) (vr a[q].1) = vr a[i].1
          rw [vr_sub k hlen]; funext j; simp only [Hnf.sub, Int.neg_mul]; omega
        rwa [e] at h2
      · have h1 : i < (a.set p (lsub k a[p] a[q])).length := by simpa using hi
        have := lat_get h1
        rw [List.getElem_set_ne (Ne.symm e)] at this
        exact .mem this
  | neg p hp dp =>
    constructor
    · intro v hv
      rcases lat_set hv with rfl | hv
      · show Span _ (vr (a[p].1.map fun z => -z))
        rw [vr_neg]; exact .step 1 .zero (lat_get hp)
      · exact .mem hv
    · intro v hv
      obtain ⟨l, hl, rfl⟩ := List.mem_map.1 hv
      obtain ⟨i, hi, rfl⟩ := List.getElem_of_mem hl
      by_cases e : i = p
      · subst e
        have h1 : i < (a.set i (lneg a[i])).length := by simpa using hi
        have := lat_get h1
        rw [List.getElem_set_self] at this
        have h2 := Span.step 1 .zero this
        have e : Hnf.sub (fun _ => 0) 1 (vr (lneg a[i]).1) = vr a[i].1 := by
          show Hnf.sub (fun _ => 0) 1 (vr (a[i].1.map fun z => -z)) = vr a[i].1
          rw [vr_neg]; funext j; simp only [Hnf.sub]; omega
        rwa [e] at h2
      · have h1 : i < (a.set p (lneg a[p])).length := by simpa using hi
        have := lat_get h1
        rw [List.getElem_set_ne (Ne.symm e)] at this
        exact .mem this
theorem Ops.lat {d n m : Nat} {a b : List Ln} (h : Ops d a b) (hd : Dim n m a) : (∀ v ∈ latL b, Span (latL a) v) ∧ (∀ v ∈ latL a, Span (latL b) v) := by
  induction h with
  | refl => exact ⟨fun v hv => .mem hv, fun v hv => .mem hv⟩
  | step o s ih =>
    have hs := s.lat (hd.ops o)
    exact ⟨fun v hv => (hs.1 v hv).trans ih.1, fun v hv => (ih.2 v hv).trans hs.2⟩
/-- Matrices: lists of rows. -/
abbrev Mx := List (List Int)
def latM (M : Mx) : List V := M.map vr
def Rect (n : Nat) (M : Mx) : Prop := ∀ r ∈ M, r.length = n
def eM (F : Mx) (i j : Nat) : Int := (F.getD i []).getD j 0
/-- A Hermite normal form with pivots ps. -/
structure IsH (n : Nat) (ps : List Nat) (F : Mx) : Prop where
  rect : Rect n F
  len : ps.length = F.length
  lt : ∀ i, i < F.length → ps.getD i 0 < n
  inc : ∀ i k, i < k → k < F.length → ps.getD i 0 < ps.getD k 0
  left : ∀ i, i < F.length → ∀ j, j < ps.getD i 0 → eM F i j = 0
  pos : ∀ i, i < F.length → 0 < eM F i (ps.getD i 0)
  red : ∀ i k, i < k → k < F.length → 0 ≤ eM F i (ps.getD k 0) ∧ eM F i (ps.getD k 0) < eM F k (ps.getD k 0)
/-- Rows with their pivots. -/
def wps (ps : List Nat) (F : Mx) : List (Nat × V) := (ps.zip F).map fun x => (x.1, vr x.2)
theorem wps_rows {ps : List Nat} {F : Mx} (h : ps.length = F.length) : Hnf.rows (wps ps F) = latM F := by
  unfold Hnf.rows wps latM
  rw [List.map_map]
  show List.map (fun x => vr x.2) (ps.zip F) = _
  rw [show (fun x : Nat × List Int => vr x.2) = vr ∘ Prod.snd from rfl, ← List.map_map, List.map_snd_zip (by omega)]
theorem ech_wps : ∀ (ps : List Nat) (F : Mx) (b : Nat), ps.length = F.length → (∀ i, i < F.length → b ≤ ps.getD i 0) → (∀ i k, i < k → k < F.length → ps.getD i 0 < ps.getD k 0) →
    (∀ i, i < F.length → ∀ j, j < ps.getD i 0 → eM F i j = 0) → (∀ i, i < F.length → 0 < eM F i (ps.getD i 0)) → Ech b (wps ps F)
  | [], [], _, _, _, _, _, _ => trivial
  | [], _ :: _, _, h, _, _, _, _ => by simp at h
  | _ :: _, [], _, h, _, _, _, _ => by simp at h
  | p :: ps, f :: F, b, hl, hb, hi, hz, hp => by
    refine ⟨hb 0 (by simp), hz 0 (by simp), hp 0 (by simp), ?_⟩
    refine ech_wps ps F (p + 1) (by simpa using hl) (fun i h => ?_) (fun i k hik hk => ?_) (fun i h => ?_) (fun i h => ?_)
    · exact hi 0 (i + 1) (by omega) (by simpa using h)
    · exact hi (i + 1) (k + 1) (by omega) (by simpa using hk)
    · exact hz (i + 1) (by simpa using h)
    · exact hp (i + 1) (by simpa using h)
theorem red_wps : ∀ (ps : List Nat) (F : Mx), ps.length = F.length → (∀ i k, i < k → k < F.length → 0 ≤ eM F i (ps.getD k 0) ∧ eM F i (ps.getD k 0) < eM F k (ps.getD k 0)) → Red (wps ps F)
  | [], [], _, _ => trivial
  | [], _ :: _, h, _ => by simp at h
  | _ :: _, [], h, _ => by simp at h
  | p :: ps, f :: F, hl, hr => by
    refine ⟨fun g hg => ?_, red_wps ps F (by simpa using hl) fun i k hik hk => hr (i + 1) (k + 1) (by omega) (by simpa using hk)⟩
    obtain ⟨x, hx, rfl⟩ := List.mem_map.1 hg
    obtain ⟨i, hi, hxe⟩ := List.getElem_of_mem hx
    have hi' : i < ps.length ∧ i < F.length := by simp at hi; omega
    have := hr 0 (i + 1) (by omega) (by simpa using hi'.2)
    obtain rfl : x = (ps[i]'hi'.1, F[i]'hi'.2) := by rw [← hxe]; exact List.getElem_zip
    simp only [eM, List.getD_cons_succ, List.getD_cons_zero] at this
    rw [getD_get hi'.1, getD_get hi'.2] at this
    exact this
theorem IsH.ech {n : Nat} {ps : List Nat} {F : Mx} (h : IsH n ps F) : Ech 0 (wps ps F) := ech_wps ps F 0 h.len (fun _ _ => Nat.zero_le _) h.inc h.left h.pos
theorem IsH.redu {n : Nat} {ps : List Nat} {F : Mx} (h : IsH n ps F) : Red (wps ps F) := red_wps ps F h.len h.red
theorem vr_inj {n : Nat} {a b : List Int} (ha : a.length = n) (hb : b.length = n) (h : vr a = vr b) : a = b := by
  refine List.ext_getElem (by omega) fun i h1 h2 => ?_
  have := congrFun h i
  simpa only [vr, List.getD_eq_getElem?_getD, List.getElem?_eq_getElem h1, List.getElem?_eq_getElem h2, Option.getD_some] using this
/-- One lattice, one form. -/
theorem IsH.unique {n : Nat} {ps qs : List Nat} {F G : Mx} (hF : IsH n ps F) (hG : IsH n qs G) (h1 : ∀ v ∈ latM F, Span (latM G) v) (h2 : ∀ v ∈ latM G, Span (latM F) v) : F = G ∧ ps = qs := by
  have e := Hnf.unique hF.ech hF.redu hG.ech hG.redu (by rw [wps_rows hF.len, wps_rows hG.len]; exact h1) (by rw [wps_rows hF.len, wps_rows hG.len]; exact h2)
  have e1 : ps = qs := by
    have := congrArg (List.map Prod.fst) e
    unfold wps at this
    rw [List.map_map, List.map_map] at this
    rw [show (Prod.fst ∘ fun x : Nat × List Int => (x.1, vr x.2)) = Prod.fst from rfl, List.map_fst_zip (by have := hF.len; omega), List.map_fst_zip (by have := hG.len; omega)] at this
    exact this
  have e2 : latM F = latM G := by rw [← wps_rows hF.len, ← wps_rows hG.len, e]
  refine ⟨?_, e1⟩
  have hl : F.length = G.length := by have := congrArg List.length e2; simpa [latM] using this
  refine List.ext_getElem hl fun i h3 h4 => ?_
  refine vr_inj (hF.rect _ (List.getElem_mem h3)) (hG.rect _ (List.getElem_mem h4)) ?_
  have := congrArg (fun l => l[i]?) e2
  simpa [latM, h3, h4] using this
/-- The first d rows of lines in echelon form. -/
def fRows (d : Nat) (ls : List Ln) : Mx := (ls.take d).map (·.1)
theorem eM_fRows {d : Nat} {ls : List Ln} {i : Nat} (h : i < d) (j : Nat) (hd : d ≤ ls.length) : eM (fRows d ls) i j = en ls i j := by
  unfold eM fRows en col
  have hi : i < ls.length := by omega
  simp only [List.getD_eq_getElem?_getD, List.getElem?_map, List.getElem?_take, if_pos h, List.getElem?_eq_getElem hi]
  rfl
theorem FormTo.isH {n d m : Nat} {ps : List Nat} {ls : List Ln} (h : FormTo n d ps ls) (hd : Dim n m ls) : IsH n ps (fRows d ls) := by
  have hl : (fRows d ls).length = d := by unfold fRows; have := h.le; simp; omega
  refine ⟨fun r hr => ?_, by rw [hl, h.len], fun i hi => ?_, fun i k hik hk => ?_, fun i hi j hj => ?_, fun i hi => ?_, fun i k hik hk => ?_⟩
  · obtain ⟨l, hl', rfl⟩ := List.mem_map.1 hr; exact (hd l (List.mem_of_mem_take hl')).1
  · rw [hl] at hi; exact h.lt i hi
  · rw [hl] at hk; exact h.inc i k hik hk
  · rw [hl] at hi; rw [eM_fRows hi _ h.le]; exact h.left i hi j hj
  · rw [hl] at hi; rw [eM_fRows hi _ h.le]; exact h.pos i hi
  · rw [hl] at hk; rw [eM_fRows (by omega) _ h.le, eM_fRows hk _ h.le]; exact h.red i k hik hk
theorem FormTo.lat {n d m : Nat} {ps : List Nat} {ls : List Ln} (h : FormTo n d ps ls) (hd : Dim n m ls) : (∀ v ∈ latM (fRows d ls), v ∈ latL ls) ∧ (∀ v ∈ latL ls, Span (latM (fRows d ls)) v) := by
  constructor
  · intro v hv
    obtain ⟨r, hr, rfl⟩ := List.mem_map.1 hv
    obtain ⟨l, hl, rfl⟩ := List.mem_map.1 hr
    exact List.mem_map.2 ⟨l, List.mem_of_mem_take hl, rfl⟩
  · intro v hv
    obtain ⟨l, hl, rfl⟩ := List.mem_map.1 hv
    obtain ⟨i, hi, rfl⟩ := List.getElem_of_mem hl
    rcases Nat.lt_or_ge i d with hid | hid
    · refine .mem (List.mem_map.2 ⟨ls[i].1, List.mem_map.2 ⟨ls[i], ?_, rfl⟩, rfl⟩)
      have : i < (ls.take d).length := by simp; omega
      have h2 := List.getElem_mem this
      rwa [List.getElem_take] at h2
    · have e : vr ls[i].1 = fun _ => 0 := by
        funext j
        rcases Nat.lt_or_ge j n with hj | hj
        · have := h.below i hid hi j hj
          unfold en col at this
          rwa [getD_get hi] at this
        · show ls[i].1.getD j 0 = 0
          rw [List.getD_eq_getElem?_getD, List.getElem?_eq_none (by rw [(hd.get hi).1]; exact hj)]; rfl
      rw [e]; exact .zero
/-- F is the Hermite normal form of M's lattice. -/
def HnfOf (n : Nat) (M F : Mx) : Prop := (∃ ps, IsH n ps F) ∧ (∀ v ∈ latM F, Span (latM M) v) ∧ (∀ v ∈ latM M, Span (latM F) v)
theorem HnfOf.unique {n : Nat} {M M' F F' : Mx} (h : HnfOf n M F) (h' : HnfOf n M' F') (h1 : ∀ v ∈ latM M, Span (latM M') v) (h2 : ∀ v ∈ latM M', Span (latM M) v) : F = F' := by
  obtain ⟨⟨ps, hF⟩, a1, a2⟩ := h
  obtain ⟨⟨qs, hG⟩, b1, b2⟩ := h'
  exact (hF.unique hG (fun v hv => ((a1 v hv).trans h1).trans b2) (fun v hv => ((b1 v hv).trans h2).trans a2)).1
/-- The lines that a matrix begins with: each row with itself alone as its sum. -/
def unitR (m i : Nat) : List Int := (List.replicate m 0).set i 1
def lines0 (M : Mx) : List Ln := M.mapIdx fun i r => (r, unitR M.length i)
@[simp] theorem lines0_length (M : Mx) : (lines0 M).length = M.length := by simp [lines0]
theorem lines0_get {M : Mx} {i : Nat} (h : i < M.length) : (lines0 M)[i]'(by simpa using h) = (M[i], unitR M.length i) := by simp [lines0]
theorem lines0_dim {n : Nat} {M : Mx} (h : Rect n M) : Dim n M.length (lines0 M) := by
  intro l hl
  obtain ⟨i, hi, rfl⟩ := List.getElem_of_mem hl
  have hi' : i < M.length := by simpa using hi
  rw [lines0_get hi']
  exact ⟨h _ (List.getElem_mem hi'), by simp [unitR]⟩
theorem lines0_lat (M : Mx) : latL (lines0 M) = latM M := by
  refine List.ext_getElem (by simp [latL, latM]) fun i h1 h2 => ?_
  have hi : i < M.length := by simpa [latM] using h2
  simp only [latL, latM, List.getElem_map, lines0_get hi]
/-- What echelon leaves is the form of the matrix. -/
theorem form_of {n d : Nat} {ps : List Nat} {M : Mx} {ls : List Ln} (hM : Rect n M) (ho : Ops 0 (lines0 M) ls) (h : FormTo n d ps ls) : HnfOf n M (fRows d ls) := by
  have hd0 := lines0_dim hM
  have hd := hd0.ops ho
  have hl := ho.lat hd0
  rw [lines0_lat] at hl
  have hf := h.lat hd
  exact ⟨⟨ps, h.isH hd⟩, fun v hv => hl.1 v (hf.1 v hv), fun v hv => (hl.2 v hv).trans hf.2⟩
end Go.Proofs.YthmhmkkcjlgbjaaGreatDoor
/- hermite: the closure of less: a row less a multiple of another one. -/
namespace Go.Proofs.YthmhmkkcjlgbjaaGreatDoor
open Go.RowKit Go.Sort
theorem grown_frozen_cell {w w' : World} {g b o : Nat} {v : Value} (h : w.grownBy w' (some g)) (hne : b ≠ g) (hc : w.cell? ⟨b, o, none⟩ = some v) : w'.cell? ⟨b, o, none⟩ = some v := by
  have hb : b < w.heap.size := World.block_lt_of_cell? _ _ hc
  have := h.block b hb (by simpa using hne)
  unfold World.cell? at *
  rw [this]; exact hc
theorem I_inj {a b : Int} (h : I a = I b) : a = b := by
  refine itoa_inj ?_
  unfold I S at h
  injection h with h
  have := congrArg (fun b : ByteArray => b.data.toList) h
  simpa using this
set_option maxRecDepth 100000 in
set_option maxHeartbeats 2000000 in
theorem take_row {w0 w : World} {ga ca gb ob gk cb : Nat} {sb : Option Addr} {k : Int} {a b : List Int} (hO : OwnV 38 w0.heap.size w ga ca (ss a)) (hB : Sl w sb gb ob (ss b)) (hne : gb ≠ ga)
    (hk : w.cell? ⟨gk, 0, none⟩ = some (I k)) (hkne : gk ≠ ga) (hlen : b.length ≤ a.length) (hl : a.length ≤ 1000000)
    (hbig : ∀ (i : Nat) (h : i < b.length) (h' : i < a.length), nd a[i] < LIM ∧ nd (k * b[i]) < LIM ∧ nd k + nd b[i] ≤ LIM) (hL : Laid w0) (hE0 : Ext w0 w) :
    Calls Tryz.prog 125 #[slv ga a.length ca, .slice sb b.length cb, .pointer (some ⟨gk, 0, none⟩)] w fun e w' => e = .returned (.tuple #[]) ∧ OwnV 38 w0.heap.size w' ga ca (ss (subK k a b)) ∧ w.grownBy w' (some ga) := by
  have HL := Lib.hid hL
  have HB := Lib.hid hB
  have Hbig := Lib.hid hbig
  clear hL hB hbig
  go_enter Tryz.func125, Tryz.ntmps125
  go_wp2
  go_loopw [9] (fun idx wr => ∃ i : Nat, i ≤ b.length ∧ idx = .int .i64 i ∧ OwnV 38 w0.heap.size wr ga ca (ss (subK k a (b.take i))) ∧ w.grownBy wr (some ga)) (fun idx _ => b.length - (intOf idx).toNat)
  case atStart => exact ⟨0, by omega, by go_num, by simpa [subK_nil] using hO, World.grownBy.refl _ _⟩
  case round =>
    obtain ⟨i, hi, rfl, hOr, hG⟩ := hrel
    have hga := hO.lt.1
    by_cases hlt : i < b.length
    · have hia : i < a.length := by omega
      obtain ⟨x, hx⟩ : ∃ x, x = a[i] := ⟨_, rfl⟩
      obtain ⟨y, hy⟩ : ∃ y, y = b[i] := ⟨_, rfl⟩
      obtain rfl := HB.out.addr (by simpa using (by omega : 0 < b.length))
      have cb : wr.cell? ⟨gb, ob + i, none⟩ = some (I y) := by
        refine grown_frozen_cell hG hne ?_
        rw [hy]
        exact HB.out.cell i _ (by simp [ss, hlt])
      have ca' : wr.cell? ⟨ga, i, none⟩ = some (I x) := by
        rw [hOr.cell (by simpa using hia)]
        simp only [ss, List.getElem_map]
        rw [subK_get k a _ i hia (by rw [List.length_take]; omega), hx]
      have ck : wr.cell? ⟨gk, 0, none⟩ = some (I k) := grown_frozen_cell hG hkne hk
      have fa := hOr.frozen i
      have hEr : Ext w0 wr := ext_trans_grown hE0 hG hga
      have hstep := subK_step k a b i hlt hia
      rw [← hx, ← hy] at hstep
      have Hstep := Lib.hid hstep
      obtain ⟨n1, n2, n3⟩ := Hbig.out i hlt hia
      rw [← hx] at n1
      rw [← hy] at n2 n3
      have hmul := Lib.hid (fun W hW => Mul_any (a := k) (b := y) (w := W) n3 hW)
      have hsub := Lib.hid (fun W hW => Sub_any (a := x) (b := k * y) (w := W) n1 n2 hW)
      have hyz : (Lib.itoa y == [48]) = decide (y = 0) := itoa_eq_zero y
      have hii : (i : Int) < (b.length : Int) := by omega
      clear hx hy hstep n1 n2 n3 hk hO
      by_cases hy0 : y = 0
      · rw [decide_eq_true hy0] at hyz
        have Hy0 := Lib.hid hy0
        clear hy0 hmul hsub
        go_wp2
        go_roundw
        case rel =>
          refine ⟨i + 1, by omega, by go_num, ?_, hG⟩
          rw [Hstep.out]
          have e : (subK k a (List.take i b)).set i (x - k * y) = subK k a (List.take i b) := by
            have hset : ∀ (l : List Int) (h : i < l.length), l[i] = x → l.set i x = l := fun l h e => by rw [← e]; exact List.set_getElem_self h
            rw [Hy0.out, Int.mul_zero, Int.sub_zero]
            refine hset _ (by simpa using hia) ?_
            have := hOr.cell (j := i) (by simpa using hia)
            rw [ca'] at this
            simp only [ss, List.getElem_map] at this
            have h2 := Option.some.inj this
            exact (I_inj h2).symm
          rw [e]; exact hOr
        case measure => simp [intOf] <;> omega
      · rw [decide_eq_false hy0] at hyz
        have c1 := quietC (w := wr) (fun W h => hmul.out W ((HL.out.ext hEr).ext h))
        have c2 := quietC (w := wr) (fun W h => hsub.out W ((HL.out.ext hEr).ext h))
        have k1 := cell_regrown ca'
        have k2 := cell_regrown ck
        clear hy0
        go_wp2_with fail
        refine wp_region_quiet_tail 11 (by kernel_rfl) (by kernel_rfl) ?_
        simp only [List.take_succ_cons, List.take_zero, List.drop_succ_cons, List.drop_zero]
        repeat (quiet_step (first | exact c1 _ _ | exact c2 _ _))
        refine wpQuiet_nil ?_
        intro _ hw'
        obtain ⟨⟨dq, osq⟩, hw''⟩ := hw'
        subst hw''
        have hE5 := ext_regrown wr dq osq
        have hO5 := hOr.ext hE5
        clear c1 c2 k1 k2
        generalize grow (redrawn wr dq) osq = w5 at *
        have f5 := hO5.frozen i
        have d5 := hE5.cell ca'
        obtain ⟨hO6, hG6⟩ := hO5.set i (I (x - k * y))
        rw [← ss_set, ← Hstep.out] at hO6
        have hG5 := grown_trans hG (grown_trans (grown_ext hE5 (some ga)) hG6)
        clear hE5 hO5 hG6
        go_wp2
        go_roundw
        case rel => exact ⟨i + 1, by omega, by go_num, hO6, hG5⟩
        case measure => simp [intOf] <;> omega
    · go_wp2
      go_end0
      refine ⟨rfl, ?_, hG⟩
      rw [List.take_of_length_le (by omega)] at hOr
      exact hOr
end Go.Proofs.YthmhmkkcjlgbjaaGreatDoor
/- hermite: line.less -/
namespace Go.Proofs.YthmhmkkcjlgbjaaGreatDoor
open Go.RowKit Go.Sort
set_option maxRecDepth 100000 in
set_option maxHeartbeats 2000000 in
theorem less_any {w0 w : World} {gx cx gy cy gb ob cb gd od cd : Nat} {sb sd : Option Addr} {k : Int} {a a2 b d : List Int}
    (hX : OwnV 38 w0.heap.size w gx cx (ss a)) (hY : OwnV 38 w0.heap.size w gy cy (ss a2)) (hxy : gx ≠ gy)
    (hB : Sl w sb gb ob (ss b)) (hbx : gb ≠ gx) (hD : Sl w sd gd od (ss d)) (hdx : gd ≠ gx) (hdy : gd ≠ gy)
    (hlen : b.length ≤ a.length) (hlen2 : d.length ≤ a2.length) (hl : a.length ≤ 1000000) (hl2 : a2.length ≤ 1000000)
    (hbig : ∀ (i : Nat) (h : i < b.length) (h' : i < a.length), nd a[i] < LIM ∧ nd (k * b[i]) < LIM ∧ nd k + nd b[i] ≤ LIM)
    (hbig2 : ∀ (i : Nat) (h : i < d.length) (h' : i < a2.length), nd a2[i] < LIM ∧ nd (k * d[i]) < LIM ∧ nd k + nd d[i] ≤ LIM) (hL : Laid w0) (hE0 : Ext w0 w) :
    Calls Tryz.prog 84 #[.agg #[slv gx a.length cx, slv gy a2.length cy], I k, .agg #[.slice sb b.length cb, .slice sd d.length cd]] w fun e w' =>
      e = .returned (.tuple #[]) ∧ OwnV 38 w0.heap.size w' gx cx (ss (subK k a b)) ∧ OwnV 38 w0.heap.size w' gy cy (ss (subK k a2 d)) ∧ Chg (fun g => g = gx ∨ g = gy) w w' := by
  have hkz : (Lib.itoa k == [48]) = decide (k = 0) := itoa_eq_zero k
  by_cases hk0 : k = 0
  · rw [decide_eq_true hk0] at hkz
    subst hk0
    rw [subK_zero a b hlen, subK_zero a2 d hlen2]
    have hE := Ext.refl w
    clear hbig hbig2 hL hlen hlen2 hl hl2 hB hD
    go_enter Tryz.func84, Tryz.ntmps84
    go_wp2
    refine bodyPost_ret (results_none rfl _ _ _) rfl ?_
    have hEW : Ext w (((w.alloc (.cells #[slv gx a.length cx, slv gy a2.length cy] 90)).alloc (.cells #[I 0] 38)).alloc (.cells #[.slice sb b.length cb, .slice sd d.length cd] 90)) := (((Ext.refl w).alloc _).alloc _).alloc _
    exact ⟨rfl, hX.ext hEW, hY.ext hEW, Chg.of_ext hEW⟩
  · rw [decide_eq_false hk0] at hkz
    have HX := Lib.hid hX
    have HY := Lib.hid hY
    have HB := Lib.hid hB
    have HD := Lib.hid hD
    have h1 := hX.lt.2
    have h2 := hY.lt.2
    clear hX hY hB hD hk0
    go_enter Tryz.func84, Tryz.ntmps84
    go_wp2_with fail
    obtain ⟨W, hW⟩ : ∃ W, W = ((w.alloc (.cells #[slv gx a.length cx, slv gy a2.length cy] 90)).alloc (.cells #[I k] 38)).alloc (.cells #[.slice sb b.length cb, .slice sd d.length cd] 90) := ⟨_, rfl⟩
    have hEW : Ext w W := by rw [hW]; exact (((Ext.refl w).alloc _).alloc _).alloc _
    have k0 : W.cell? ⟨w.heap.size + 1, 0, none⟩ = some (I k) := by rw [hW]; go_simp
    have k1 : W.cell? ⟨w.heap.size, 1, none⟩ = some (slv gy a2.length cy) := by rw [hW]; go_simp
    have k2 : W.cell? ⟨w.heap.size + 1 + 1, 1, none⟩ = some (.slice sd d.length cd) := by rw [hW]; go_simp
    rw [← hW]
    have hBig := Lib.hid hbig
    have hBig2 := Lib.hid hbig2
    have hL' := Lib.hid hL
    clear hW hbig hbig2 hL
    refine (take_row (HX.out.ext hEW) (HB.out.ext hEW) hbx k0 (by omega) hlen hl hBig.out hL'.out (hE0.trans hEW)).mono ?_
    rintro e w1 ⟨rfl, hX1, hG1⟩
    have hC1 : Chg (fun g => g = gx ∨ g = gy) W w1 := Chg.of_grown hG1 (.inl rfl)
    have k1' := grown_frozen_cell hG1 (by omega) k1
    have k2' := grown_frozen_cell hG1 (by omega) k2
    have k0' := grown_frozen_cell hG1 (by omega) k0
    have hY1 := (HY.out.ext hEW).other hG1 (by omega)
    have hD1 : Sl w1 sd gd od (ss d) := ⟨HD.out.addr, fun i x hx => grown_frozen_cell hG1 hdx ((HD.out.ext hEW).cell i x hx)⟩
    have hgx0 := HX.out.lt.1
    have hE1 : Ext w0 w1 := ext_trans_grown (hE0.trans hEW) hG1 hgx0
    have HX1 := Lib.hid hX1
    clear hG1 k0 k1 k2 hX1
    go_wp2_with fail
    refine (take_row hY1 hD1 hdy k0' (by omega) hlen2 hl2 hBig2.out hL'.out hE1).mono ?_
    rintro e w2 ⟨rfl, hY2, hG2⟩
    have hX2 := HX1.out.other hG2 hxy
    have hC2 := hC1.trans (Chg.of_grown hG2 (.inr rfl))
    clear hG2 hY1 hD1 k0' k1' k2'
    go_wp2_with fail
    go_end0
    exact ⟨rfl, hX2, hY2, (Chg.of_ext hEW).trans hC2⟩
end Go.Proofs.YthmhmkkcjlgbjaaGreatDoor
/- hermite: line.turn -/
namespace Go.Proofs.YthmhmkkcjlgbjaaGreatDoor
open Go.RowKit Go.Sort
/-- The first j elements with the other sign. -/
def negTo (j : Nat) (l : List Int) : List Int := (l.take j).map (fun z => -z) ++ l.drop j
theorem negTo_zero (l : List Int) : negTo 0 l = l := by simp [negTo]
theorem negTo_all (l : List Int) : negTo l.length l = l.map (fun z => -z) := by simp [negTo]
@[simp] theorem negTo_length (j : Nat) (l : List Int) : (negTo j l).length = l.length := by simp [negTo]; omega
theorem negTo_get {j : Nat} {l : List Int} (h : j < l.length) : (negTo j l)[j]'(by simpa using h) = l[j] := by
  unfold negTo
  rw [List.getElem_append_right (by simp; omega)]
  simp [Nat.min_eq_left (Nat.le_of_lt h)]
theorem negTo_step {j : Nat} {l : List Int} (h : j < l.length) : negTo (j + 1) l = (negTo j l).set j (-l[j]) := by
  unfold negTo
  rw [List.set_append_right _ _ (by simp; omega)]
  rw [List.take_add_one, List.map_append, List.append_assoc]
  congr 1
  rw [List.getElem?_eq_getElem h]
  simp only [Option.toList_some, List.map_cons, List.map_nil, List.length_map, List.length_take, Nat.min_eq_left (Nat.le_of_lt h), Nat.sub_self]
  conv => rhs; rw [List.drop_eq_getElem_cons h]
  rfl
set_option maxRecDepth 100000 in
set_option maxHeartbeats 2000000 in
theorem turn_any {w0 w : World} {gx cx gy cy : Nat} {a a2 : List Int}
    (hX : OwnV 38 w0.heap.size w gx cx (ss a)) (hY : OwnV 38 w0.heap.size w gy cy (ss a2)) (hxy : gx ≠ gy) (hl : a.length ≤ 1000000) (hl2 : a2.length ≤ 1000000)
    (hbig : ∀ z ∈ a, nd z ≤ LIM) (hbig2 : ∀ z ∈ a2, nd z ≤ LIM) :
    Calls Tryz.prog 83 #[.agg #[slv gx a.length cx, slv gy a2.length cy]] w fun e w' =>
      e = .returned (.tuple #[]) ∧ OwnV 38 w0.heap.size w' gx cx (ss (a.map fun z => -z)) ∧ OwnV 38 w0.heap.size w' gy cy (ss (a2.map fun z => -z)) ∧ Chg (fun g => g = gx ∨ g = gy) w w' := by
  have HX := Lib.hid hX
  have HY := Lib.hid hY
  have h1 := hX.lt.2
  have h2 := hY.lt.2
  have Hb := Lib.hid hbig
  have Hb2 := Lib.hid hbig2
  clear hX hY hbig hbig2
  go_enter Tryz.func83, Tryz.ntmps83
  go_wp2_with fail
  obtain ⟨W, hW⟩ : ∃ W, W = (w.alloc (.cells #[slv gx a.length cx, slv gy a2.length cy] 90)).alloc (.cells #[slv gx a.length cx, slv gy a2.length cy] 88) := ⟨_, rfl⟩
  have hEW : Ext w W := by rw [hW]; exact ((Ext.refl w).alloc _).alloc _
  have k0 : W.cell? ⟨w.heap.size + 1, 0, none⟩ = some (slv gx a.length cx) := by rw [hW]; go_simp
  have k1 : W.cell? ⟨w.heap.size + 1, 1, none⟩ = some (slv gy a2.length cy) := by rw [hW]; go_simp
  rw [← hW]
  clear hW
  go_loopw [12] (fun idx wr => ∃ i : Nat, i ≤ 2 ∧ idx = .int .i64 i ∧ OwnV 38 w0.heap.size wr gx cx (ss (if 0 < i then a.map (fun z => -z) else a)) ∧ OwnV 38 w0.heap.size wr gy cy (ss (if 1 < i then a2.map (fun z => -z) else a2)) ∧ Chg (fun g => g = gx ∨ g = gy) W wr) (fun idx _ => 2 - (intOf idx).toNat)
  case atStart => exact ⟨0, by omega, by go_num, HX.out.ext hEW, HY.out.ext hEW, Chg.refl _ _⟩
  case round =>
    obtain ⟨i, hi, rfl, hOXr, hOYr, hC⟩ := hrel
    generalize wr = V at *
    have k0r := hC.cell (by omega) k0
    have k1r := hC.cell (by omega) k1
    rcases (show i = 0 ∨ i = 1 ∨ i = 2 by omega) with rfl | rfl | rfl
    · rw [if_neg (by omega)] at hOXr hOYr
      rw [show ((0 : Nat) : Int) = 0 from rfl]
      have hOX := hOXr
      go_wp2_with fail
      go_loopw [18] (fun jdx wi => ∃ j : Nat, j ≤ a.length ∧ jdx = .int .i64 j ∧ OwnV 38 w0.heap.size wi gx cx (ss (negTo j a)) ∧ V.grownBy wi (some gx)) (fun jdx _ => a.length - (intOf jdx).toNat)
      case atStart => exact ⟨0, by omega, by go_num, by rw [negTo_zero]; exact hOX, World.grownBy.refl _ _⟩
      case round =>
        obtain ⟨j, hj, rfl, hOj, hG⟩ := hrel
        by_cases hlt : j < a.length
        · obtain ⟨x, hx⟩ : ∃ x, x = a[j] := ⟨_, rfl⟩
          have cj : wr.cell? ⟨gx, j, none⟩ = some (I x) := by
            rw [hOj.cell (by simpa using hlt)]
            simp only [ss, List.getElem_map]
            rw [negTo_get hlt, hx]
          have hneg := Lib.hid (Neg_any (z := x) (Hb.out x (by rw [hx]; exact List.getElem_mem hlt)))
          have Hst := Lib.hid (negTo_step hlt)
          rw [← hx] at Hst
          have hjj : (j : Int) < (a.length : Int) := by omega
          clear hx hOX hOXr
          go_wp2_with fail
          refine (hneg.out _).mono ?_
          rintro e w5 ⟨rfl, hE5⟩
          have f5 := (hOj.ext hE5).frozen j
          have d5 := hE5.cell cj
          obtain ⟨hO6, hG6⟩ := (hOj.ext hE5).set j (I (-x))
          rw [← ss_set, ← Hst.out] at hO6
          have hG7 := grown_trans hG (grown_trans (grown_ext hE5 (some gx)) hG6)
          clear hE5 hOj hG6 hG
          go_wp2
          go_roundw
          case rel => exact ⟨j + 1, by omega, by go_num, hO6, hG7⟩
          case measure => simp [intOf] <;> omega
        · have hje : j = a.length := by omega
          subst hje
          rw [negTo_all] at hOj
          have hYj := hOYr.other hG (Ne.symm hxy)
          have hCj := hC.trans (Chg.of_grown hG (.inl rfl))
          go_wp2
          go_roundw
          case rel => exact ⟨1, by omega, by go_num, by rw [if_pos (by omega)]; exact hOj, by rw [if_neg (by omega)]; exact hYj, hCj⟩
          case measure => simp [intOf]
    · rw [if_pos (by omega)] at hOXr
      rw [if_neg (by omega)] at hOYr
      rw [show ((1 : Nat) : Int) = 1 from rfl]
      have hOY := hOYr
      go_wp2_with fail
      go_loopw [18] (fun jdx wi => ∃ j : Nat, j ≤ a2.length ∧ jdx = .int .i64 j ∧ OwnV 38 w0.heap.size wi gy cy (ss (negTo j a2)) ∧ V.grownBy wi (some gy)) (fun jdx _ => a2.length - (intOf jdx).toNat)
      case atStart => exact ⟨0, by omega, by go_num, by rw [negTo_zero]; exact hOY, World.grownBy.refl _ _⟩
      case round =>
        obtain ⟨j, hj, rfl, hOj, hG⟩ := hrel
        by_cases hlt : j < a2.length
        · obtain ⟨x, hx⟩ : ∃ x, x = a2[j] := ⟨_, rfl⟩
          have cj : wr.cell? ⟨gy, j, none⟩ = some (I x) := by
            rw [hOj.cell (by simpa using hlt)]
            simp only [ss, List.getElem_map]
            rw [negTo_get hlt, hx]
          have hneg := Lib.hid (Neg_any (z := x) (Hb2.out x (by rw [hx]; exact List.getElem_mem hlt)))
          have Hst := Lib.hid (negTo_step hlt)
          rw [← hx] at Hst
          have hjj : (j : Int) < (a2.length : Int) := by omega
          clear hx hOY hOYr
          go_wp2_with fail
          refine (hneg.out _).mono ?_
          rintro e w5 ⟨rfl, hE5⟩
          have f5 := (hOj.ext hE5).frozen j
          have d5 := hE5.cell cj
          obtain ⟨hO6, hG6⟩ := (hOj.ext hE5).set j (I (-x))
          rw [← ss_set, ← Hst.out] at hO6
          have hG7 := grown_trans hG (grown_trans (grown_ext hE5 (some gy)) hG6)
          clear hE5 hOj hG6 hG
          go_wp2
          go_roundw
          case rel => exact ⟨j + 1, by omega, by go_num, hO6, hG7⟩
          case measure => simp [intOf] <;> omega
        · have hje : j = a2.length := by omega
          subst hje
          rw [negTo_all] at hOj
          have hXj := hOXr.other hG hxy
          have hCj := hC.trans (Chg.of_grown hG (.inr rfl))
          go_wp2
          go_roundw
          case rel => exact ⟨2, by omega, by go_num, by rw [if_pos (by omega)]; exact hXj, by rw [if_pos (by omega)]; exact hOj, hCj⟩
          case measure => simp [intOf]
    · rw [if_pos (by omega)] at hOXr hOYr
      rw [show ((2 : Nat) : Int) = 2 from rfl]
      go_wp2
      go_end0
      exact ⟨rfl, hOXr, hOYr, (Chg.of_ext hEW).trans hC⟩
end Go.Proofs.YthmhmkkcjlgbjaaGreatDoor
/- hermite: lines in memory: a block of headers (two cells a line), each line's two rows in blocks of their own. -/
namespace Go.Proofs.YthmhmkkcjlgbjaaGreatDoor
open Go.RowKit Go.Sort
/-- Where a line's rows lie: the blocks and their room. -/
structure Ad where
  gx : Nat
  cx : Nat
  gy : Nat
  cy : Nat
  deriving Inhabited
structure Lns (B : Nat) (w : World) (g : Nat) (ad : List Ad) (ls : List Ln) : Prop where
  len : ad.length = ls.length
  base : B ≤ g
  lt : g < w.heap.size
  fz : ∀ o, w.frozen? ⟨g, o, none⟩ = false
  hx : ∀ i (h : i < ls.length) (h' : i < ad.length), w.cell? ⟨g, 2 * i, none⟩ = some (slv ad[i].gx ls[i].1.length ad[i].cx)
  hy : ∀ i (h : i < ls.length) (h' : i < ad.length), w.cell? ⟨g, 2 * i + 1, none⟩ = some (slv ad[i].gy ls[i].2.length ad[i].cy)
  x : ∀ i (h : i < ls.length) (h' : i < ad.length), OwnV 38 B w ad[i].gx ad[i].cx (ss ls[i].1)
  y : ∀ i (h : i < ls.length) (h' : i < ad.length), OwnV 38 B w ad[i].gy ad[i].cy (ss ls[i].2)
  own : ∀ i (h : i < ad.length), ad[i].gx ≠ g ∧ ad[i].gy ≠ g ∧ ad[i].gx ≠ ad[i].gy
  dis : ∀ i j (hi : i < ad.length) (hj : j < ad.length), i ≠ j → ad[i].gx ≠ ad[j].gx ∧ ad[i].gx ≠ ad[j].gy ∧ ad[i].gy ≠ ad[j].gx ∧ ad[i].gy ≠ ad[j].gy
theorem Lns.ext {B : Nat} {w w' : World} {g : Nat} {ad : List Ad} {ls : List Ln} (h : Lns B w g ad ls) (he : Ext w w') : Lns B w' g ad ls where
  len := h.len
  base := h.base
  lt := Nat.lt_of_lt_of_le h.lt he.size
  fz := fun o => by rw [he.frozen h.lt]; exact h.fz o
  hx := fun i a b => he.cell (h.hx i a b)
  hy := fun i a b => he.cell (h.hy i a b)
  x := fun i a b => (h.x i a b).ext he
  y := fun i a b => (h.y i a b).ext he
  own := h.own
  dis := h.dis
theorem Chg.frozen {R : Nat → Prop} {a b : World} (h : Chg R a b) {g o : Nat} (hg : ¬ R g) (hl : g < a.heap.size) : b.frozen? ⟨g, o, none⟩ = a.frozen? ⟨g, o, none⟩ := by
  have := h.block g hl hg
  unfold World.frozen?
  rw [this]
/-- Line i's rows have been written. -/
theorem Lns.wrote {B : Nat} {w w' : World} {g : Nat} {ad : List Ad} {ls : List Ln} (h : Lns B w g ad ls) {i : Nat} (hi : i < ad.length) (hi' : i < ls.length) {l : Ln} (e1 : l.1.length = ls[i].1.length) (e2 : l.2.length = ls[i].2.length)
    (hX : OwnV 38 B w' ad[i].gx ad[i].cx (ss l.1)) (hY : OwnV 38 B w' ad[i].gy ad[i].cy (ss l.2)) (hC : Chg (fun k => k = ad[i].gx ∨ k = ad[i].gy) w w') : Lns B w' g ad (ls.set i l) := by
  have hown := h.own i hi
  have hg : ¬ (g = ad[i].gx ∨ g = ad[i].gy) := by rintro (e | e); exact hown.1 e.symm; exact hown.2.1 e.symm
  refine ⟨by rw [List.length_set]; exact h.len, h.base, Nat.lt_of_lt_of_le h.lt hC.size, fun o => by rw [hC.frozen hg h.lt]; exact h.fz o, ?_, ?_, ?_, ?_, h.own, h.dis⟩
  · intro j hj hj'
    rw [List.length_set] at hj
    have := hC.cell hg (h.hx j hj hj')
    by_cases hij : i = j
    · subst hij; simp only [List.getElem_set_self]; rw [e1]; exact this
    · simp only [List.getElem_set_ne hij]; exact this
  · intro j hj hj'
    rw [List.length_set] at hj
    have := hC.cell hg (h.hy j hj hj')
    by_cases hij : i = j
    · subst hij; simp only [List.getElem_set_self]; rw [e2]; exact this
    · simp only [List.getElem_set_ne hij]; exact this
  · intro j hj hj'
    rw [List.length_set] at hj
    by_cases hij : i = j
    · subst hij; simp only [List.getElem_set_self]; exact hX
    · simp only [List.getElem_set_ne hij]
      have d := h.dis j i hj' hi (Ne.symm hij)
      exact hC.own (by rintro (e | e); exact d.1 e; exact d.2.1 e) (h.x j hj hj')
  · intro j hj hj'
    rw [List.length_set] at hj
    by_cases hij : i = j
    · subst hij; simp only [List.getElem_set_self]; exact hY
    · simp only [List.getElem_set_ne hij]
      have d := h.dis j i hj' hi (Ne.symm hij)
      exact hC.own (by rintro (e | e); exact d.2.2.1 e; exact d.2.2.2 e) (h.y j hj hj')
end Go.Proofs.YthmhmkkcjlgbjaaGreatDoor
