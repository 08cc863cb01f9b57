/- Part 29 of the proof of the claim: contracts of the functions that it reaches, and plain laws; no condition. -/
import Derived.Test.YthmhmkkcjlgbjaaGreatDoorV22
import Derived.Test.YthmhmkkcjlgbjaaGreatDoorV23
import Derived.Test.YthmhmkkcjlgbjaaGreatDoorV27
import Derived.Test.YthmhmkkcjlgbjaaGreatDoorV20
/- Plain: the index by the reference's product of pivots -/
namespace Go.Proofs.YthmhmkkcjlgbjaaGreatDoor
open Hnf (V Span Ech Red)
theorem isH_pvi {n : Nat} {ps : List Nat} {F : Mx} (h : IsH n ps F) {i : Nat} (hi : i < F.length) : pv (F.getD i []) = ps.getD i 0 := by
  rw [isH_pv h, getD_map pv F i hi 0 []]
theorem isH_pvp {n : Nat} {ps : List Nat} {F : Mx} (h : IsH n ps F) : ∀ i, i < F.length → pv (F.getD i []) < n ∧ 0 < (F.getD i []).getD (pv (F.getD i [])) 0 := fun i hi => by
  rw [isH_pvi h hi]
  exact ⟨h.lt i hi, h.pos i hi⟩
theorem idx_floor {n : Nat} {F G : Mx} {ps qs : List Nat} (hF : IsH n ps F) (hG : IsH n qs G) (hs : ∀ v ∈ latM G, Span (latM F) v) (hl : F.length ≤ G.length) : G.length = F.length ∧ 0 < pivP F F F.length ∧ (pivP G G G.length).fdiv (pivP F F F.length) = idxN F G F.length := by
  obtain ⟨h1, h2⟩ := same_piv hF hG hs hl
  have h0 : ∀ i, i < F.length → 0 < eM F i (pv (F.getD i [])) := fun i hi => (isH_pvp hF i hi).2
  have e : ∀ i, i ≤ F.length → pivP G G i = pivP F G i := by
    intro i
    induction i with
    | zero => intro _; rfl
    | succ i ih =>
      intro hi
      rw [pivP, pivP, ih (by omega), isH_pvi hF (by omega), isH_pvi hG (by omega), (h2 i (by omega)).1]
  have hp := pivP_pos h0 F.length (Nat.le_refl _)
  have hm := idxN_mul (G := G) h0 (fun i hi => by rw [isH_pvi hF hi]; exact (h2 i hi).2) F.length (Nat.le_refl _)
  refine ⟨h1, hp, ?_⟩
  rw [h1, e F.length (Nat.le_refl _), ← hm, Int.mul_fdiv_cancel _ (by omega)]
theorem span_nil {v : V} (h : Span [] v) (j : Nat) : v j = 0 := span_col h fun r hr => by cases hr
theorem hnf_nil0 {n : Nat} {F : Mx} (h : HnfOf n [] F) : F.length = 0 := by
  obtain ⟨⟨ps, hI⟩, h1, _⟩ := h
  rcases Nat.eq_zero_or_pos F.length with h0 | h0
  · exact h0
  · have h2 := hI.pos 0 h0
    have h3 := span_nil (h1 (vr (F.getD 0 [])) (by rw [getD_get h0]; exact List.mem_map.2 ⟨F[0], List.getElem_mem h0, rfl⟩)) (ps.getD 0 0)
    unfold eM at h2
    unfold vr at h3
    omega
theorem ix_pair {M S F : Mx} {n : Nat} (hM : GridM M) (hS : GridM S) (hRM : Rect n M) (hRS : Rect n S) (hF : HnfOf (ncols M) M F) : pairE F S = 0 := by
  obtain ⟨_, hcF, hiF, hF4, hRF⟩ := grid_form hM hF
  obtain ⟨_, _, _, hcS⟩ := gridM_rect hS
  unfold pairE
  rw [if_pos hcF, if_pos hcS, if_pos hiF, if_neg]
  rintro ⟨a, b, c⟩
  refine c ?_
  rw [ncols_of hRF a, ncols_of hRS b]
  rcases Nat.eq_zero_or_pos M.length with h0 | h0
  · have e := List.eq_nil_of_length_eq_zero h0
    subst e
    have := hnf_nil0 hF
    omega
  · exact ncols_of hRM h0
/-- What the law's loop finds. -/
def inT (F S : Mx) (k : Nat) : Bool := (S.take k).all fun x => allZ (redX F x)
theorem inT_step {F S : Mx} {k : Nat} (h : k < S.length) : inT F S (k + 1) = (inT F S k && allZ (redX F S[k])) := by
  unfold inT
  rw [List.take_succ_eq_append_getElem h, List.all_append]
  simp
theorem allZ_zeroB (l : List Int) : allZ l = zeroB l := by
  rw [Bool.eq_iff_iff, zeroB_iff]
  unfold allZ zeroL
  rw [List.all_eq_true]
  exact ⟨fun h z hz => by simpa using h z hz, fun h z hz => by simpa using h z hz⟩
theorem inT_all {F S : Mx} {k : Nat} (h : S.length ≤ k) : inT F S k = inclB F S := by
  unfold inT
  rw [List.take_of_length_le h, Bool.eq_iff_iff, List.all_eq_true, inclB_iff]
  exact ⟨fun h x hx => by have := h x hx; rw [allZ_zeroB] at this; exact this, fun h x hx => by rw [allZ_zeroB]; exact h x hx⟩
theorem ix_span {F S : Mx} {n : Nat} {ps : List Nat} (hF : IsH n ps F) (hS : Rect n S) (h : inclB F S = true) : ∀ v ∈ latM S, Span (latM F) v := by
  intro v hv
  obtain ⟨x, hx, rfl⟩ := List.mem_map.1 hv
  exact (redX_zero hF (hS x hx)).1 (zeroB_iff.1 (inclB_iff.1 h x hx))
end Go.Proofs.YthmhmkkcjlgbjaaGreatDoor
/- schismaref07: EqualRows, Equal -/
namespace Go.Proofs.YthmhmkkcjlgbjaaGreatDoor
open Go.RowKit Go.Sort
theorem list_getD_ext {a b : List Int} (hl : a.length = b.length) (h : ∀ j, j < a.length → a.getD j 0 = b.getD j 0) : a = b := by
  apply List.ext_getElem hl
  intro i h1 h2
  have := h i h1
  rwa [getD_get h1, getD_get h2] at this
theorem mx_getD_ext {a b : Mx} (hl : a.length = b.length) (h : ∀ j, j < a.length → a.getD j [] = b.getD j []) : a = b := by
  apply List.ext_getElem hl
  intro i h1 h2
  have := h i h1
  rwa [getD_get h1, getD_get h2] at this
set_option maxRecDepth 100000 in
set_option maxHeartbeats 1000000 in
theorem EqualRows_any {w : World} {va vb : Value} {a b : List Int} (hA : RowR w va a) (hB : RowR w vb b) (hbig : a.length ≤ 1000000) :
    Calls Tryz.prog 26 #[va, vb] w fun e w' => e = .returned (.bool (decide (a = b))) ∧ Ext w w' := by
  obtain ⟨sa, ga, oa, ca, rfl, hca, hSa⟩ := hA
  obtain ⟨sb, gb, ob, cb, rfl, hcb, hSb⟩ := hB
  by_cases hl : a.length = b.length
  · obtain ⟨n, hn⟩ : ∃ n, n = a.length := ⟨_, rfl⟩
    rw [← hl]
    rw [← hn] at hbig ⊢
    have HA := Lib.hid hSa
    have HB := Lib.hid hSb
    have Hn := Lib.hid hn
    have Hm := Lib.hid (hn.trans hl)
    clear hSa hSb hl hn hca hcb
    go_enter Tryz.func26, Tryz.ntmps26
    go_wp2_with fail
    go_loopw [5] (fun idx wr => ∃ i : Nat, i ≤ n ∧ idx = .int .i64 i ∧ Hid (∀ j, j < i → a.getD j 0 = b.getD j 0) ∧ Ext w wr) (fun idx _ => n - (intOf idx).toNat)
    case atStart => exact ⟨0, by omega, by go_num, Lib.hid (fun j h => by omega), Ext.refl _⟩
    case round =>
      obtain ⟨i, hi, rfl, Hz, hE⟩ := hrel
      generalize wr = X at *
      by_cases hlt : i < n
      · have hii : (i : Int) < (n : Int) := by omega
        have c1 := (HA.out.ext hE).cell i (.int .i64 (a[i]'(by rw [← Hn.out]; exact hlt))) (is_get (by rw [← Hn.out]; exact hlt))
        have c2 := (HB.out.ext hE).cell i (.int .i64 (b[i]'(by rw [← Hm.out]; exact hlt))) (is_get (by rw [← Hm.out]; exact hlt))
        obtain rfl := HA.out.addr (by rw [is_length, ← Hn.out]; omega)
        obtain rfl := HB.out.addr (by rw [is_length, ← Hm.out]; omega)
        obtain ⟨x, hx⟩ : ∃ x, x = a[i]'(by rw [← Hn.out]; exact hlt) := ⟨_, rfl⟩
        obtain ⟨y, hy⟩ : ∃ y, y = b[i]'(by rw [← Hm.out]; exact hlt) := ⟨_, rfl⟩
        rw [← hx] at c1
        rw [← hy] at c2
        have Hx := Lib.hid (show a.getD i 0 = x by rw [hx, getD_get (by rw [← Hn.out]; exact hlt)])
        have Hy := Lib.hid (show b.getD i 0 = y by rw [hy, getD_get (by rw [← Hm.out]; exact hlt)])
        clear hx hy
        by_cases hxy : x = y
        · subst hxy
          go_wp2_with fail
          go_quiet (fail)
          go_wp2_with fail
          go_roundw
          case rel => exact ⟨i + 1, by omega, by go_num, Lib.hid (fun j hj => by
            by_cases e : j = i
            · subst e; rw [Hx.out, Hy.out]
            · exact Hz.out j (by omega)), hE.drewN _⟩
          case measure => simp [intOf] <;> omega
        · have hb1 : (x == y) = false := beq_eq_false_iff_ne.2 hxy
          have hb2 : (x != y) = true := by simp [bne, hb1]
          have Hne := Lib.hid (show decide (a = b) = false from decide_eq_false (fun e => hxy (by rw [← Hx.out, ← Hy.out, e])))
          go_wp2_with fail
          go_quiet (fail)
          go_wp2_with fail
          go_ret
          exact ⟨by rw [Hne.out]; rfl, hE.drewN _⟩
      · have Heq := Lib.hid (show decide (a = b) = true from decide_eq_true (list_getD_ext (by rw [← Hn.out, ← Hm.out]) (fun j hj => Hz.out j (by rw [← Hn.out] at hj; omega))))
        go_wp2_with fail
        go_ret
        exact ⟨by rw [Heq.out]; rfl, hE⟩
  · have hne : decide (a = b) = false := decide_eq_false (fun e => hl (by rw [e]))
    rw [hne]
    have h1 : ¬ ((a.length : Int) = (b.length : Int)) := by omega
    have h2 : ((a.length : Int) == (b.length : Int)) = false := beq_eq_false_iff_ne.2 h1
    have h3 : ((a.length : Int) != (b.length : Int)) = true := by simp [bne, h2]
    clear hSa hSb hca hcb hne
    generalize a.length = n at *
    generalize b.length = m at *
    go_enter Tryz.func26, Tryz.ntmps26
    go_wp2_with fail
    go_ret
    exact ⟨rfl, Ext.refl _⟩
set_option maxRecDepth 100000 in
set_option maxHeartbeats 1000000 in
theorem Equal_any {w : World} {va vb : Value} {A B : Mx} (hA : MatR w va A) (hB : MatR w vb B) (hbig : A.length ≤ 1000000) (hbr : ∀ r ∈ A, r.length ≤ 1000000) :
    Calls Tryz.prog 17 #[va, vb] w fun e w' => e = .returned (.bool (decide (A = B))) ∧ Ext w w' := by
  obtain ⟨sa, ga, oa, ca, va', rfl, hca, hvA, hSa, hrA⟩ := hA
  obtain ⟨sb, gb, ob, cb, vb', rfl, hcb, hvB, hSb, hrB⟩ := hB
  by_cases hl : A.length = B.length
  · obtain ⟨n, hn⟩ : ∃ n, n = A.length := ⟨_, rfl⟩
    rw [← hl]
    rw [← hn] at hbig ⊢
    have HA := Lib.hid hSa
    have HB := Lib.hid hSb
    have HvA := Lib.hid hvA
    have HvB := Lib.hid hvB
    have HrA := Lib.hid hrA
    have HrB := Lib.hid hrB
    have Hn := Lib.hid hn
    have Hm := Lib.hid (hn.trans hl)
    clear hSa hSb hl hn hca hcb hvA hvB hrA hrB
    go_enter Tryz.func17, Tryz.ntmps17
    go_wp2_with fail
    go_loopw [5] (fun idx wr => ∃ i : Nat, i ≤ n ∧ idx = .int .i64 i ∧ Hid (∀ j, j < i → A.getD j [] = B.getD j []) ∧ Ext w wr) (fun idx _ => n - (intOf idx).toNat)
    case atStart => exact ⟨0, by omega, by go_num, Lib.hid (fun j h => by omega), Ext.refl _⟩
    case round =>
      obtain ⟨i, hi, rfl, Hz, hE⟩ := hrel
      generalize wr = X at *
      by_cases hlt : i < n
      · have hii : (i : Int) < (n : Int) := by omega
        have hiA : i < A.length := by rw [← Hn.out]; exact hlt
        have hiB : i < B.length := by rw [← Hm.out]; exact hlt
        obtain ⟨sx, bx, ox, cx, hrx, hcx, hSx⟩ := MatR.row HA.out HvA.out HrA.out hiA
        obtain ⟨sy, by', oy, cy, hry, hcy, hSy⟩ := MatR.row HB.out HvB.out HrB.out hiB
        obtain rfl := HA.out.addr (by rw [HvA.out]; omega)
        obtain rfl := HB.out.addr (by rw [HvB.out]; omega)
        have k1 := cell_regrown (hE.cell hrx)
        have k2 := cell_regrown (hE.cell hry)
        have hx1 : RowR X (.slice sx A[i].length cx) A[i] := ⟨sx, bx, ox, cx, rfl, hcx, hSx.ext hE⟩
        have hy1 : RowR X (.slice sy B[i].length cy) B[i] := ⟨sy, by', oy, cy, rfl, hcy, hSy.ext hE⟩
        obtain ⟨lx, hlx⟩ : ∃ l, l = A[i].length := ⟨_, rfl⟩
        obtain ⟨ly, hly⟩ : ∃ l, l = B[i].length := ⟨_, rfl⟩
        rw [← hlx] at k1 hx1
        rw [← hly] at k2 hy1
        clear hlx hly
        have hEQ := Lib.hid (fun V (hV : Ext X V) => EqualRows_any (w := V) (hx1.ext hV) (hy1.ext hV) (hbr _ (List.getElem_mem hiA)))
        have HxA := Lib.hid (show A.getD i [] = A[i] from getD_get hiA [])
        have HxB := Lib.hid (show B.getD i [] = B[i] from getD_get hiB [])
        obtain ⟨q, hq⟩ : ∃ q, q = decide (A[i] = B[i]) := ⟨_, rfl⟩
        rw [← hq] at hEQ
        have bE := Lib.hid (quietC (w := X) (fun V hV => hEQ.out V hV))
        have Hq := Lib.hid hq
        clear hrx hry hcx hcy hSx hSy hq hx1 hy1 hEQ
        cases q
        · have Hne := Lib.hid (show decide (A = B) = false from decide_eq_false (fun e => by
            have := Hq.out.symm
            rw [decide_eq_false_iff_not] at this
            exact this (by rw [← HxA.out, ← HxB.out, e])))
          clear Hq HxA HxB
          go_wp2_with fail
          refine wp_region_quiet_below (by kernel_rfl) (by kernel_rfl) ?_
          repeat (quiet_step (exact bE.out _ _))
          refine wpQuiet_nil ?_
          intro _ hw'
          obtain ⟨⟨dq, osq⟩, hw''⟩ := hw'
          subst hw''
          have hE2 := hE.trans (ext_regrown X dq osq)
          clear k1 k2 bE
          generalize hW6 : grow (redrawn _ _) _ = W6 at *
          clear hW6
          go_wp2_with fail
          go_ret
          exact ⟨by rw [Hne.out]; rfl, hE2⟩
        · have Hok := Lib.hid (show A.getD i [] = B.getD i [] by rw [HxA.out, HxB.out]; exact of_decide_eq_true Hq.out.symm)
          clear Hq HxA HxB
          go_wp2_with fail
          refine wp_region_quiet_below (by kernel_rfl) (by kernel_rfl) ?_
          repeat (quiet_step (exact bE.out _ _))
          refine wpQuiet_nil ?_
          intro _ hw'
          obtain ⟨⟨dq, osq⟩, hw''⟩ := hw'
          subst hw''
          have hE2 := hE.trans (ext_regrown X dq osq)
          clear k1 k2 bE
          generalize hW6 : grow (redrawn _ _) _ = W6 at *
          clear hW6
          go_wp2_with fail
          go_roundw
          case rel => exact ⟨i + 1, by omega, by go_num, Lib.hid (fun j hj => by
            by_cases e : j = i
            · subst e; exact Hok.out
            · exact Hz.out j (by omega)), hE2⟩
          case measure => simp [intOf] <;> omega
      · have Heq := Lib.hid (show decide (A = B) = true from decide_eq_true (mx_getD_ext (by rw [← Hn.out, ← Hm.out]) (fun j hj => Hz.out j (by rw [← Hn.out] at hj; omega))))
        go_wp2_with fail
        go_ret
        exact ⟨by rw [Heq.out]; rfl, hE⟩
  · have hne : decide (A = B) = false := decide_eq_false (fun e => hl (by rw [e]))
    rw [hne]
    have h1 : ¬ ((A.length : Int) = (B.length : Int)) := by omega
    have h2 : ((A.length : Int) == (B.length : Int)) = false := beq_eq_false_iff_ne.2 h1
    have h3 : ((A.length : Int) != (B.length : Int)) = true := by simp [bne, h2]
    clear hSa hSb hca hcb hne hrA hrB hvA hvB
    generalize A.length = n at *
    generalize B.length = m at *
    go_enter Tryz.func17, Tryz.ntmps17
    go_wp2_with fail
    go_ret
    exact ⟨rfl, Ext.refl _⟩
end Go.Proofs.YthmhmkkcjlgbjaaGreatDoor
/- literals in memory; the known answers in plain Lean -/
namespace Go.Proofs.YthmhmkkcjlgbjaaGreatDoor
open Go.RowKit Go.Sort
theorem row2 {W : World} {b : Nat} {x y : Int} (c0 : W.cell? ⟨b, 0, none⟩ = some (.int .i64 x)) (c1 : W.cell? ⟨b, 1, none⟩ = some (.int .i64 y)) : RowR W (.slice (some ⟨b, 0, none⟩) 2 2) [x, y] :=
  ⟨_, b, 0, 2, rfl, Nat.le_refl _, fun _ => rfl, fun i v hv => by
    match i, hv with
    | 0, hv => simp [is] at hv; rw [← hv]; exact c0
    | 1, hv => simp [is] at hv; rw [← hv]; exact c1
    | i + 2, hv => simp [is] at hv⟩
theorem row3 {W : World} {b : Nat} {x y z : Int} (c0 : W.cell? ⟨b, 0, none⟩ = some (.int .i64 x)) (c1 : W.cell? ⟨b, 1, none⟩ = some (.int .i64 y)) (c2 : W.cell? ⟨b, 2, none⟩ = some (.int .i64 z)) : RowR W (.slice (some ⟨b, 0, none⟩) 3 3) [x, y, z] :=
  ⟨_, b, 0, 3, rfl, Nat.le_refl _, fun _ => rfl, fun i v hv => by
    match i, hv with
    | 0, hv => simp [is] at hv; rw [← hv]; exact c0
    | 1, hv => simp [is] at hv; rw [← hv]; exact c1
    | 2, hv => simp [is] at hv; rw [← hv]; exact c2
    | i + 3, hv => simp [is] at hv⟩
theorem mat2 {W : World} {b : Nat} {v1 v2 : Value} {r1 r2 : List Int} (c0 : W.cell? ⟨b, 0, none⟩ = some v1) (c1 : W.cell? ⟨b, 1, none⟩ = some v2) (R1 : RowR W v1 r1) (R2 : RowR W v2 r2) : MatR W (.slice (some ⟨b, 0, none⟩) 2 2) [r1, r2] :=
  ⟨_, b, 0, 2, [v1, v2], rfl, Nat.le_refl _, rfl, ⟨fun _ => rfl, fun i v hv => by
    match i, hv with
    | 0, hv => simp at hv; rw [← hv]; exact c0
    | 1, hv => simp at hv; rw [← hv]; exact c1
    | i + 2, hv => simp at hv⟩, fun i h h' => by
    match i, h with
    | 0, _ => exact R1
    | 1, _ => exact R2⟩
theorem span2 {r1 r2 v : Hnf.V} (a b : Int) (h : ∀ j, v j = a * r1 j + b * r2 j) : Hnf.Span [r1, r2] v := by
  have e : v = Hnf.sub (Hnf.sub (fun _ => 0) (-a) r1) (-b) r2 := by
    funext j
    rw [h j]; simp only [Hnf.sub]; grind
  rw [e]
  exact Hnf.Span.step _ (Hnf.Span.step _ Hnf.Span.zero (by simp)) (by simp)
theorem vr3 {x y z x1 y1 z1 x2 y2 z2 : Int} (a b : Int) (h0 : x = a * x1 + b * x2) (h1 : y = a * y1 + b * y2) (h2 : z = a * z1 + b * z2) : ∀ j, vr [x, y, z] j = a * vr [x1, y1, z1] j + b * vr [x2, y2, z2] j
  | 0 => by simpa [vr] using h0
  | 1 => by simpa [vr] using h1
  | 2 => by simpa [vr] using h2
  | j + 3 => by simp [vr]
theorem known_hnf : HnfOf 3 [[-4, 4, -1], [7, 0, -3]] [[1, 20, -14], [0, 28, -19]] := by
  refine ⟨⟨_, isF_isH (fun r hr => ?_) (by decide)⟩, fun v hv => ?_, fun v hv => ?_⟩
  · simp at hr; rcases hr with rfl | rfl <;> rfl
  · simp only [latM, List.map_cons, List.map_nil, List.mem_cons, List.not_mem_nil, or_false] at hv
    rcases hv with rfl | rfl
    · exact span2 5 3 (vr3 5 3 (by decide) (by decide) (by decide))
    · exact span2 7 4 (vr3 7 4 (by decide) (by decide) (by decide))
  · simp only [latM, List.map_cons, List.map_nil, List.mem_cons, List.not_mem_nil, or_false] at hv
    rcases hv with rfl | rfl
    · exact span2 (-4) 3 (vr3 (-4) 3 (by decide) (by decide) (by decide))
    · exact span2 7 (-5) (vr3 7 (-5) (by decide) (by decide) (by decide))
theorem known_hnf2 : HnfOf 2 [[2, 0], [0, 3]] [[2, 0], [0, 3]] := by
  refine ⟨⟨_, isF_isH (fun r hr => ?_) (by decide)⟩, fun v hv => .mem hv, fun v hv => .mem hv⟩
  simp at hr; rcases hr with rfl | rfl <;> rfl
theorem known_c1 : checkM [[-4, 4, -1], [7, 0, -3]] = 0 := by decide
theorem known_k1 : bC ([[-4, 4, -1], [7, 0, -3]] : Mx).length 30 (ncols [[-4, 4, -1], [7, 0, -3]]) + 2 < LIM := by decide
theorem known_s1 : smallM [[1, 20, -14], [0, 28, -19]] = true := by decide
theorem known_o : openE [[2, 0], [0, 3]] [5, -1] = 0 := by decide
theorem known_x : redX [[2, 0], [0, 3]] [5, -1] = [1, 2] := by decide
theorem known_q : redQ [[2, 0], [0, 3]] [5, -1] = [2, -1] := by decide
theorem known_sm : (smallB [1, 2] && smallB [2, -1]) = true := by decide
theorem known_p : pairE [[1, 0], [0, 1]] [[2, 0], [0, 3]] = 0 := by decide
theorem known_k2 : 13 * (bC ([[2, 0], [0, 3]] : Mx).length 30 (ncols [[2, 0], [0, 3]]) + 2) < LIM := by decide
theorem known_in : inclB [[1, 0], [0, 1]] [[2, 0], [0, 3]] = true := by decide
theorem known_ix : idxN [[1, 0], [0, 1]] [[2, 0], [0, 3]] 2 = 6 := by decide
theorem I_six : I 6 = .string ⟨#[54]⟩ := by unfold I S; rw [show (6 : Int) = ((6 : Nat) : Int) from rfl, itoa_nat, Lib.decDigits]; rfl
theorem known_form {w : World} {v : Value} (hM : MatR w v [[-4, 4, -1], [7, 0, -3]]) (hL : Laid w) :
    Calls Tryz.prog 12 #[v] w fun e w' => ∃ u, e = .returned (.tuple #[u, .int .i64 0]) ∧ MatR w' u [[1, 20, -14], [0, 28, -19]] ∧ Ext w w' :=
  (form_any hM known_c1 known_k1 hL).mono fun e w' ⟨F, hF, hP, hE⟩ => by
    have : F = [[1, 20, -14], [0, 28, -19]] := hF.unique known_hnf (fun v hv => .mem hv) (fun v hv => .mem hv)
    subst this
    rw [if_pos known_s1] at hP
    obtain ⟨u, rfl, hO⟩ := hP
    exact ⟨u, rfl, hO.mat, hE⟩
theorem known_reduce {w : World} {v x : Value} (hM : MatR w v [[2, 0], [0, 3]]) (hx : RowR w x [5, -1]) (hL : Laid w) :
    Calls Tryz.prog 38 #[v, x] w fun e w' => ∃ u1 u2, e = .returned (.tuple #[u1, u2, .int .i64 0]) ∧ RowR w' u1 [1, 2] ∧ RowR w' u2 [2, -1] ∧ Ext w w' :=
  (Reduce_any hM hx hL).mono fun e w' ⟨hP, hE⟩ => by
    rw [if_pos known_o, known_x, known_q, if_pos known_sm] at hP
    obtain ⟨u1, u2, rfl, h1, h2⟩ := hP
    exact ⟨u1, u2, rfl, h1.row, h2.row, hE⟩
theorem known_index {w : World} {v u : Value} (hM : MatR w v [[1, 0], [0, 1]]) (hu : MatR w u [[2, 0], [0, 3]]) (hL : Laid w) :
    Calls Tryz.prog 14 #[v, u] w fun e w' => e = .returned (.tuple #[.string ⟨#[54]⟩, .bool true, .int .i64 0]) ∧ Ext w w' :=
  (Index_ok hM hu known_p known_k2 hL).mono fun e w' ⟨hP, hE⟩ => by
    rw [if_pos known_in] at hP
    obtain ⟨G, hG, hP⟩ := hP
    have : G = [[2, 0], [0, 3]] := hG.unique known_hnf2 (fun v hv => .mem hv) (fun v hv => .mem hv)
    subst this
    rw [if_neg (by decide), show ([[1, 0], [0, 1]] : Mx).length = 2 from rfl, known_ix, I_six] at hP
    exact ⟨hP, hE⟩
theorem eqr_same {w : World} {va vb : Value} {a : List Int} (hA : RowR w va a) (hB : RowR w vb a) (hb : a.length ≤ 1000000) :
    Calls Tryz.prog 26 #[va, vb] w fun e w' => e = .returned (.bool true) ∧ Ext w w' := by
  have := EqualRows_any hA hB hb
  rwa [decide_eq_true rfl] at this
theorem eqm_same {w : World} {va vb : Value} {A : Mx} (hA : MatR w va A) (hB : MatR w vb A) (hb : A.length ≤ 1000000) (hr : ∀ r ∈ A, r.length ≤ 1000000) :
    Calls Tryz.prog 17 #[va, vb] w fun e w' => e = .returned (.bool true) ∧ Ext w w' := by
  have := Equal_any hA hB hb hr
  rwa [decide_eq_true rfl] at this
end Go.Proofs.YthmhmkkcjlgbjaaGreatDoor
/- schismalaw07: known -/
namespace Go.Proofs.YthmhmkkcjlgbjaaGreatDoor
open Go.RowKit Go.Sort
set_option maxRecDepth 100000 in
set_option maxHeartbeats 2000000 in
theorem known_any {w : World} (hL : Laid w) : Calls Tryz.prog 10 #[] w fun e w' => e = .returned (.bool true) ∧ Ext w w' := by
  have HL := Lib.hid hL
  clear hL
  go_enter Tryz.func10, Tryz.ntmps10
  go_wp2_with fail
  refine (known_form (mat2 (v1 := .slice (some ⟨w.heap.size, 0, none⟩) 3 3) (v2 := .slice (some ⟨w.heap.size + 1, 0, none⟩) 3 3) (by go_simp) (by go_simp) (row3 (by go_simp) (by go_simp) (by go_simp)) (row3 (by go_simp) (by go_simp) (by go_simp))) (HL.out.ext ((((Ext.refl w).alloc _).alloc _).alloc _))).mono ?_
  rintro e w1 ⟨u, rfl, hu, hE1⟩
  have hE1' := Lib.hid (((((Ext.refl w).alloc _).alloc _).alloc _).trans hE1)
  have Hu := Lib.hid hu
  clear hu hE1
  go_wp2_with fail
  refine (known_reduce (mat2 (v1 := .slice (some ⟨w1.heap.size, 0, none⟩) 2 2) (v2 := .slice (some ⟨w1.heap.size + 1, 0, none⟩) 2 2) (by go_simp) (by go_simp) (row2 (by go_simp) (by go_simp)) (row2 (by go_simp) (by go_simp))) (row2 (by go_simp) (by go_simp)) (HL.out.ext (hE1'.out.trans (((((Ext.refl w1).alloc _).alloc _).alloc _).alloc _)))).mono ?_
  rintro e w2 ⟨u1, u2, rfl, hu1, hu2, hE2⟩
  have hE2' := Lib.hid (hE1'.out.trans ((((((Ext.refl w1).alloc _).alloc _).alloc _).alloc _).trans hE2))
  have Hu' := Lib.hid (Hu.out.ext ((((((Ext.refl w1).alloc _).alloc _).alloc _).alloc _).trans hE2))
  have Hu1 := Lib.hid hu1
  have Hu2 := Lib.hid hu2
  clear hu1 hu2 hE2 Hu hE1'
  go_wp2_with fail
  refine (known_index (mat2 (v1 := .slice (some ⟨w2.heap.size, 0, none⟩) 2 2) (v2 := .slice (some ⟨w2.heap.size + 1, 0, none⟩) 2 2) (by go_simp) (by go_simp) (row2 (by go_simp) (by go_simp)) (row2 (by go_simp) (by go_simp))) (mat2 (v1 := .slice (some ⟨w2.heap.size + 3, 0, none⟩) 2 2) (v2 := .slice (some ⟨w2.heap.size + 4, 0, none⟩) 2 2) (by go_simp) (by go_simp) (row2 (by go_simp) (by go_simp)) (row2 (by go_simp) (by go_simp))) (HL.out.ext (hE2'.out.trans (((((((Ext.refl w2).alloc _).alloc _).alloc _).alloc _).alloc _).alloc _)))).mono ?_
  rintro e w3 ⟨rfl, hE3⟩
  have hE23 := Lib.hid ((((((((Ext.refl w2).alloc _).alloc _).alloc _).alloc _).alloc _).alloc _).trans hE3)
  have hE3' := Lib.hid (hE2'.out.trans hE23.out)
  clear hE3 hE2'
  go_wp2_with fail
  refine (eqm_same (A := [[1, 20, -14], [0, 28, -19]]) (Hu'.out.ext (hE23.out.trans ((((Ext.refl w3).alloc _).alloc _).alloc _))) (mat2 (v1 := .slice (some ⟨w3.heap.size, 0, none⟩) 3 3) (v2 := .slice (some ⟨w3.heap.size + 1, 0, none⟩) 3 3) (by go_simp) (by go_simp) (row3 (by go_simp) (by go_simp) (by go_simp)) (row3 (by go_simp) (by go_simp) (by go_simp))) (by decide) (by decide)).mono ?_
  rintro e w4 ⟨rfl, hE4⟩
  have hE34 := Lib.hid (((((Ext.refl w3).alloc _).alloc _).alloc _).trans hE4)
  clear hE4
  go_wp2_with fail
  refine (eqr_same (a := [1, 2]) (Hu1.out.ext ((hE23.out.trans hE34.out).trans ((Ext.refl w4).alloc _))) (row2 (by go_simp) (by go_simp)) (by decide)).mono ?_
  rintro e w5 ⟨rfl, hE5⟩
  have hE45 := Lib.hid (((Ext.refl w4).alloc _).trans hE5)
  clear hE5
  go_wp2_with fail
  refine (eqr_same (a := [2, -1]) (Hu2.out.ext (((hE23.out.trans hE34.out).trans hE45.out).trans ((Ext.refl w5).alloc _))) (row2 (by go_simp) (by go_simp)) (by decide)).mono ?_
  rintro e w6 ⟨rfl, hE6⟩
  have hE56 := Lib.hid (((Ext.refl w5).alloc _).trans hE6)
  clear hE6
  go_wp2_with fail
  go_ret
  exact ⟨rfl, ((hE3'.out.trans hE34.out).trans hE45.out).trans hE56.out⟩
end Go.Proofs.YthmhmkkcjlgbjaaGreatDoor
/- schismaref07: first, Pivots -/
namespace Go.Proofs.YthmhmkkcjlgbjaaGreatDoor
open Go.RowKit Go.Sort
set_option maxRecDepth 100000 in
set_option maxHeartbeats 1000000 in
theorem first07_any {w : World} {v : Value} {r : List Int} (hR : RowR w v r) (hbig : r.length ≤ 1000000) :
    Calls Tryz.prog 60 #[v] w fun e w' => e = .returned (.int .i64 (pvI r)) ∧ Ext w w' := by
  obtain ⟨sa, gb, go, cap, rfl, hc, hS⟩ := hR
  have HS := Lib.hid hS
  obtain ⟨n, hn⟩ : ∃ n, n = r.length := ⟨_, rfl⟩
  rw [← hn] at hbig
  have Hn := Lib.hid hn
  rw [← hn]
  clear hS hc hn
  go_enter Tryz.func60, Tryz.ntmps60
  go_wp2_with fail
  go_loopw [3] (fun idx wr => ∃ i : Nat, i ≤ n ∧ idx = .int .i64 i ∧ Hid (∀ j, j < i → r.getD j 0 = 0) ∧ Ext w wr) (fun idx _ => n - (intOf idx).toNat)
  case atStart => exact ⟨0, by omega, by go_num, Lib.hid (fun j h => by omega), Ext.refl _⟩
  case round =>
    obtain ⟨i, hi, rfl, Hz, hE⟩ := hrel
    generalize wr = X at *
    by_cases hlt : i < n
    · have hii : (i : Int) < (n : Int) := by omega
      have c1 := (HS.out.ext hE).cell i (.int .i64 (r[i]'(by rw [← Hn.out]; exact hlt))) (is_get (by rw [← Hn.out]; exact hlt))
      obtain rfl := HS.out.addr (by rw [is_length, ← Hn.out]; omega)
      obtain ⟨x, hx⟩ : ∃ x, x = r[i]'(by rw [← Hn.out]; exact hlt) := ⟨_, rfl⟩
      rw [← hx] at c1
      have Hx := Lib.hid (show r.getD i 0 = x by rw [hx, getD_get (by rw [← Hn.out]; exact hlt)])
      clear hx
      by_cases hx0 : x = 0
      · subst hx0
        go_wp2_with fail
        go_roundw
        case rel => exact ⟨i + 1, by omega, by go_num, Lib.hid (fun j hj => by
          by_cases e : j = i
          · subst e; exact Hx.out
          · exact Hz.out j (by omega)), hE⟩
        case measure => simp [intOf] <;> omega
      · have hb1 : (x == 0) = false := beq_eq_false_iff_ne.2 hx0
        have hb2 : (x != 0) = true := by simp [bne, hb1]
        have hp := pv_of (r := r) (p := i) (by rw [Hx.out]; exact hx0) Hz.out
        have Hp := Lib.hid (show pvI r = (i : Int) by unfold pvI; rw [hp.1, if_pos hp.2])
        clear hp
        go_wp2_with fail
        go_ret
        exact ⟨by rw [Hp.out]; rfl, hE⟩
    · have hp : ¬ pv r < r.length := fun h => pv_ne h (Hz.out _ (by rw [← Hn.out] at h; omega))
      have Hp := Lib.hid (show pvI r = -1 by unfold pvI; rw [if_neg hp])
      clear hp
      go_wp2_with fail
      go_ret
      exact ⟨by rw [Hp.out]; rfl, hE⟩
set_option maxRecDepth 100000 in
set_option maxHeartbeats 1000000 in
theorem Pivots07_any {w : World} {v : Value} {M : Mx} (hM : MatR w v M) (hml : M.length ≤ 1000000) (hbr : ∀ r ∈ M, r.length ≤ 1000000) :
    Calls Tryz.prog 27 #[v] w fun e w' => ∃ v', e = .returned v' ∧ RowV w.heap.size w' v' (M.map pvI) ∧ Ext w w' := by
  obtain ⟨sa, gb, go, cap, vs, rfl, hcap, hvl, hS, hr⟩ := hM
  have HS := Lib.hid hS
  have HV := Lib.hid hvl
  have HR := Lib.hid hr
  clear hS hvl hr
  go_enter Tryz.func27, Tryz.ntmps27
  go_wp2_with fail
  go_loopw [3, 4] (fun out idx wr => ∃ i : Nat, i ≤ M.length ∧ idx = .int .i64 i ∧ Hid (RowV w.heap.size wr out ((M.map pvI).take i)) ∧ Ext w wr) (fun _ idx _ => M.length - (intOf idx).toNat)
  case atStart => exact ⟨0, by omega, by go_num, Lib.hid (RowV.nil _ _), Ext.refl _⟩
  case round =>
    obtain ⟨i, hi, rfl, hO, hE⟩ := hrel
    generalize wr = X at *
    by_cases hlt : i < M.length
    · have hii : (i : Int) < (M.length : Int) := by omega
      obtain rfl := HS.out.addr (by rw [HV.out]; omega)
      obtain ⟨sr, br, or, cr, hrow, hrc, hSr⟩ := MatR.row HS.out HV.out HR.out hlt
      have hrow' := hE.cell hrow
      have hpc := Lib.hid (first07_any (w := X) (v := .slice sr M[i].length cr) (r := M[i]) ⟨sr, br, or, cr, rfl, hrc, hSr.ext hE⟩ (hbr _ (List.getElem_mem hlt)))
      have hil : ((M.map pvI).take i).length = i := by rw [List.length_take, List.length_map]; omega
      have Hil := Lib.hid hil
      obtain ⟨q, hq⟩ : ∃ q, q = pvI M[i] := ⟨_, rfl⟩
      rw [← hq] at hpc
      have Hsn := Lib.hid (show (M.map pvI).take (i + 1) = (M.map pvI).take i ++ [q] by
        rw [List.take_succ_eq_append_getElem (by simpa using hlt), hq]; simp)
      clear hq hrow hrc hSr hil
      go_wp2_with fail
      refine hpc.out.mono ?_
      rintro e W ⟨rfl, hW⟩
      have HO2 := Lib.hid (hO.out.ext hW)
      have hE2 := Lib.hid (hE.trans hW)
      have hsz := hE2.out.size
      clear hpc hW
      go_wp2_with (at_builtin; refine app_int rfl _ _ 34 Tryz.underlying34 rfl rfl (HO2.out.ext ((Ext.refl _).alloc _)) rfl (b := W.heap.size) (z := q) (by go_simp) (by rw [Hil.out]; omega) (by simp; omega) ?_; intro gg cap2 w8 hO8 hB8 hG8; rw [Hil.out] at hO8 ⊢)
      rw [← Hsn.out] at hO8
      have hE8 : Ext w w8 := Below.trans (hE2.out.alloc (.cells #[.int .i64 q] 3)) hB8
      clear hG8 hB8
      go_wp2_with fail
      go_roundw
      case rel => exact ⟨i + 1, by omega, by go_num, Lib.hid hO8, hE8⟩
      case measure => simp [intOf] <;> omega
    · have hie : i = M.length := by omega
      subst hie
      go_wp2_with fail
      go_ret
      refine ⟨_, rfl, ?_, hE⟩
      have := hO.out
      rwa [List.take_of_length_le (by simp)] at this
end Go.Proofs.YthmhmkkcjlgbjaaGreatDoor
/- schismaref07: IsForm -/
namespace Go.Proofs.YthmhmkkcjlgbjaaGreatDoor
open Go.RowKit Go.Sort
set_option maxRecDepth 100000 in
set_option maxHeartbeats 1000000 in
theorem IsForm07_any {w : World} {v : Value} {M : Mx} {n : Nat} (hM : MatR w v M) (hR : Rect n M) (hl : M.length ≤ 1000000) (hn : n ≤ 1000000) :
    Calls Tryz.prog 25 #[v] w fun e w' => e = .returned (.bool (isF M)) ∧ Ext w w' := by
  obtain ⟨sa, gb, go, cap, vs, rfl, hcap, hvl, hS, hr⟩ := hM
  have HS := Lib.hid hS
  have HV := Lib.hid hvl
  have HR := Lib.hid hr
  have HRt := Lib.hid hR
  clear hS hvl hr hR
  go_enter Tryz.func25, Tryz.ntmps25
  go_wp2_with fail
  go_loopw [3, 4] (fun be idx wr => ∃ i : Nat, i ≤ M.length ∧ idx = .int .i64 i ∧ be = .int .i64 (bef M i) ∧ Hid (∀ j, j < i → rowOk M j = true) ∧ Ext w wr) (fun _ idx _ => M.length - (intOf idx).toNat)
  case atStart => exact ⟨0, by omega, by go_num, by unfold bef; rw [if_pos rfl], Lib.hid (fun j h => by omega), Ext.refl _⟩
  case round =>
    obtain ⟨i, hi, rfl, rfl, Hp, hE⟩ := hrel
    generalize wr = X at *
    by_cases hlt : i < M.length
    · have hii : (i : Int) < (M.length : Int) := by omega
      have hic : (i : Int) ≤ (cap : Int) := by omega
      obtain rfl := HS.out.addr (by rw [HV.out]; omega)
      obtain ⟨sr, br, or, cr, hrow, hrc, hSr⟩ := MatR.row HS.out HV.out HR.out hlt
      have hrl : M[i].length = n := HRt.out _ (List.getElem_mem hlt)
      have hrd : M.getD i [] = M[i] := getD_get hlt []
      obtain ⟨r, hrr⟩ : ∃ r, r = M[i] := ⟨_, rfl⟩
      rw [← hrr] at hrow hrc hSr hrl hrd
      rw [hrl] at hrow hrc
      have hrow' := hE.cell hrow
      have Hrl := Lib.hid hrl
      have Hrd := Lib.hid hrd
      have hpc := Lib.hid (first07_any (w := X) (v := .slice sr n cr) (r := r) ⟨sr, br, or, cr, by rw [Hrl.out], by rw [Hrl.out]; exact hrc, hSr.ext hE⟩ (by rw [Hrl.out]; exact hn))
      have hb1 := bef_ge M i
      have HSr := Lib.hid hSr
      clear hrow hrr hrl hrd hSr
      have hfin : ∀ W, Ext w W → rowOk M i = false → (.returned (.bool false) : Ending) = .returned (.bool (isF M)) ∧ Ext w W := fun W hW h => ⟨by rw [isF_no hlt h], hW⟩
      have Hfin := Lib.hid hfin
      clear hfin
      obtain ⟨be, hbe⟩ : ∃ be, be = bef M i := ⟨_, rfl⟩
      rw [← hbe] at hb1 ⊢
      have Hbe := Lib.hid hbe
      clear hbe
      by_cases h1 : pvI r ≤ be
      · have Hno := Lib.hid (rowOk_no1 (M := M) (i := i) (by rw [Hrd.out, ← Hbe.out]; exact h1))
        obtain ⟨q, hq⟩ : ∃ q, q = pvI r := ⟨_, rfl⟩
        rw [← hq] at h1 hpc
        clear hq
        go_wp2_with fail
        refine hpc.out.mono ?_
        rintro e W ⟨rfl, hW⟩
        go_wp2_with fail
        go_ret
        exact Hfin.out _ (hE.trans hW) Hno.out
      · have hpn : pv r < r.length ∧ pvI r = (pv r : Int) := by
          unfold pvI at h1 ⊢
          by_cases h : pv r < r.length
          · exact ⟨h, by rw [if_pos h]⟩
          · rw [if_neg h] at h1; omega
        rw [hpn.2] at hpc h1
        have hpn2 : pv r < n := by have := hpn.1; rw [Hrl.out] at this; exact this
        have hH1 := Lib.hid (show bef M i < pvI (M.getD i []) by rw [Hrd.out, hpn.2, ← Hbe.out]; omega)
        have HpI := Lib.hid hpn.2
        have ha := (HSr.out.ext hE).cell (pv r) (.int .i64 (r.getD (pv r) 0)) (by rw [getD_get hpn.1]; exact is_get hpn.1)
        obtain rfl := HSr.out.addr (by rw [is_length]; omega)
        obtain ⟨p, hp⟩ : ∃ p, p = pv r := ⟨_, rfl⟩
        obtain ⟨a, hae⟩ : ∃ a, a = r.getD p 0 := ⟨_, rfl⟩
        have heM : eM M i (pv (M.getD i [])) = a := by rw [Hrd.out, hae, hp]; unfold eM; rw [Hrd.out]
        rw [← hp] at hpc h1 hpn2 ha HpI
        rw [← hae] at ha
        have Hp1 := Lib.hid hp
        have Hae := Lib.hid hae
        have HeM := Lib.hid heM
        have hpi : (p : Int) < (n : Int) := by omega
        have h1b : be < (p : Int) := by omega
        have h1d : decide ((p : Int) ≤ be) = false := decide_eq_false (by omega)
        clear hp hae heM hpn h1
        by_cases h2 : a < 0
        · have Hno := Lib.hid (rowOk_no2 (M := M) (i := i) (by rw [HeM.out]; exact h2))
          go_wp2_with fail
          refine hpc.out.mono ?_
          rintro e W ⟨rfl, hW⟩
          have c5 := hW.cell hrow'
          have c6 := hW.cell ha
          go_wp2_with fail
          go_ret
          exact Hfin.out _ (hE.trans hW) Hno.out
        · have h20 : 0 ≤ a := by omega
          have h2d : decide (a < 0) = false := decide_eq_false h2
          clear h2
          go_wp2_with fail
          refine hpc.out.mono ?_
          rintro e W ⟨rfl, hW⟩
          have c5 := hW.cell hrow'
          have c6 := hW.cell ha
          have hEW := Lib.hid (hE.trans hW)
          clear hpc
          go_wp2_with fail
          go_loopw [6] (fun idx wr => ∃ k : Nat, k ≤ i ∧ idx = .int .i64 k ∧ Hid (∀ j, j < k → bad M i j = false) ∧ Ext W wr) (fun idx _ => i - (intOf idx).toNat)
          case atStart => exact ⟨0, by omega, by go_num, Lib.hid (fun j h => by omega), Ext.refl _⟩
          case round =>
            obtain ⟨k, hk, rfl, Hb, hEk⟩ := hrel
            generalize wr = Y at *
            have e5 := hEk.cell c5
            have e6 := hEk.cell c6
            by_cases hki : k < i
            · have hkii : (k : Int) < (i : Int) := by omega
              have hkM : k < M.length := by omega
              have hkl : (k : Int) < (M.length : Int) := by omega
              obtain ⟨sk, bk, ok, ck, hrk, hck, hSk⟩ := MatR.row HS.out HV.out HR.out hkM
              have hkn : M[k].length = n := HRt.out _ (List.getElem_mem hkM)
              rw [hkn] at hrk
              have hrkY := hEk.cell (hEW.out.cell hrk)
              have ck' := (hSk.ext (hEW.out.trans hEk)).cell p (.int .i64 (M[k].getD p 0)) (by rw [getD_get (by omega)]; exact is_get (by omega))
              obtain rfl := hSk.addr (by rw [is_length]; omega)
              have hbd : bad M i k = (decide (M[k].getD p 0 < 0) || decide (a ≤ M[k].getD p 0)) := by
                unfold bad
                rw [HeM.out]
                unfold eM
                rw [Hrd.out, ← Hp1.out, getD_get hkM []]
              obtain ⟨z, hz⟩ : ∃ z, z = M[k].getD p 0 := ⟨_, rfl⟩
              rw [← hz] at ck' hbd
              have Hbd := Lib.hid hbd
              clear hrk hck hSk hkn hbd hz
              by_cases z0 : z < 0
              · have Hno := Lib.hid (rowOk_no3 (M := M) (i := i) (anyB_iff.2 ⟨k, hki, by rw [Hbd.out, decide_eq_true z0]; rfl⟩))
                go_wp2_with fail
                go_quiet (fail)
                go_wp2_with fail
                go_ret
                exact Hfin.out _ ((hEW.out.trans hEk).drewN _) Hno.out
              · have z0d : decide (z < 0) = false := decide_eq_false z0
                have z0i : 0 ≤ z := by omega
                by_cases z1 : a ≤ z
                · have Hno := Lib.hid (rowOk_no3 (M := M) (i := i) (anyB_iff.2 ⟨k, hki, by rw [Hbd.out, decide_eq_true z1, Bool.or_true]⟩))
                  clear z0
                  go_wp2_with fail
                  go_quiet (fail)
                  go_wp2_with fail
                  go_ret
                  exact Hfin.out _ ((hEW.out.trans hEk).drewN _) Hno.out
                · have z1d : decide (a ≤ z) = false := decide_eq_false z1
                  have z1i : z < a := by omega
                  have Hok := Lib.hid (show bad M i k = false by rw [Hbd.out, z0d, z1d]; rfl)
                  clear z0 z1
                  go_wp2_with fail
                  go_quiet (fail)
                  go_wp2_with fail
                  go_roundw
                  case rel => exact ⟨k + 1, by omega, by go_num, Lib.hid (fun j hj => by
                    by_cases e : j = k
                    · subst e; exact Hok.out
                    · exact Hb.out j (by omega)), hEk.drewN _⟩
                  case measure => simp [intOf] <;> omega
            · have hkd : k = i := by omega
              have Hok := Lib.hid (rowOk_yes hH1.out (by rw [HeM.out]; exact h20) (anyB_no (fun j hj => Hb.out j (by omega))))
              go_wp2_with fail
              go_roundw
              case rel => exact ⟨i + 1, by omega, by go_num, by unfold bef; rw [if_neg (by omega), Nat.add_sub_cancel, Hrd.out, HpI.out], Lib.hid (fun j hj => by
                by_cases e : j = i
                · subst e; exact Hok.out
                · exact Hp.out j (by omega)), hEW.out.trans hEk⟩
              case measure => simp [intOf] <;> omega
    · have Hyes := Lib.hid (isF_yes (M := M) (fun j hj => Hp.out j (by omega)))
      go_wp2_with fail
      go_ret
      exact ⟨by rw [Hyes.out]; rfl, hE⟩
end Go.Proofs.YthmhmkkcjlgbjaaGreatDoor
