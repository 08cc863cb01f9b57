/- Part 30 of the proof of the claim: contracts of the functions that it reaches, and plain laws; no condition. -/
import Derived.Test.YthmhmkkcjlgbjaaGreatDoorV22
import Derived.Test.YthmhmkkcjlgbjaaGreatDoorV20
/- schismaref07: EqualRows, Equal -/
namespace Go.Proofs.YthmhmkkcjlgbjaaGreatDoor
open Go.RowKit Go.Sort
theorem list_getD_ext {a b : List Int} (hl : a.length = b.length) (h : ∀ j, j < a.length → a.getD j 0 = b.getD j 0) : a = b := by
  apply List.ext_getElem hl
  intro i h1 h2
  have := h i h1
  rwa [getD_get h1, getD_get h2] at this
theorem mx_getD_ext {a b : Mx} (hl : a.length = b.length) (h : ∀ j, j < a.length → a.getD j [] = b.getD j []) : a = b := by
  apply List.ext_getElem hl
  intro i h1 h2
  have := h i h1
  rwa [getD_get h1, getD_get h2] at this
set_option maxRecDepth 100000 in
set_option maxHeartbeats 1000000 in
theorem EqualRows_any {w : World} {va vb : Value} {a b : List Int} (hA : RowR w va a) (hB : RowR w vb b) (hbig : a.length ≤ 1000000) :
    Calls Tryz.prog 26 #[va, vb] w fun e w' => e = .returned (.bool (decide (a = b))) ∧ Ext w w' := by
  obtain ⟨sa, ga, oa, ca, rfl, hca, hSa⟩ := hA
  obtain ⟨sb, gb, ob, cb, rfl, hcb, hSb⟩ := hB
  by_cases hl : a.length = b.length
  · obtain ⟨n, hn⟩ : ∃ n, n = a.length := ⟨_, rfl⟩
    rw [← hl]
    rw [← hn] at hbig ⊢
    have HA := Lib.hid hSa
    have HB := Lib.hid hSb
    have Hn := Lib.hid hn
    have Hm := Lib.hid (hn.trans hl)
    clear hSa hSb hl hn hca hcb
    go_enter Tryz.func26, Tryz.ntmps26
    go_wp2_with fail
    go_loopw [5] (fun idx wr => ∃ i : Nat, i ≤ n ∧ idx = .int .i64 i ∧ Hid (∀ j, j < i → a.getD j 0 = b.getD j 0) ∧ Ext w wr) (fun idx _ => n - (intOf idx).toNat)
    case atStart => exact ⟨0, by omega, by go_num, Lib.hid (fun j h => by omega), Ext.refl _⟩
    case round =>
      obtain ⟨i, hi, rfl, Hz, hE⟩ := hrel
      generalize wr = X at *
      by_cases hlt : i < n
      · have hii : (i : Int) < (n : Int) := by omega
        have c1 := (HA.out.ext hE).cell i (.int .i64 (a[i]'(by rw [← Hn.out]; exact hlt))) (is_get (by rw [← Hn.out]; exact hlt))
        have c2 := (HB.out.ext hE).cell i (.int .i64 (b[i]'(by rw [← Hm.out]; exact hlt))) (is_get (by rw [← Hm.out]; exact hlt))
        obtain rfl := HA.out.addr (by rw [is_length, ← Hn.out]; omega)
        obtain rfl := HB.out.addr (by rw [is_length, ← Hm.out]; omega)
        obtain ⟨x, hx⟩ : ∃ x, x = a[i]'(by rw [← Hn.out]; exact hlt) := ⟨_, rfl⟩
        obtain ⟨y, hy⟩ : ∃ y, y = b[i]'(by rw [← Hm.out]; exact hlt) := ⟨_, rfl⟩
        rw [← hx] at c1
        rw [← hy] at c2
        have Hx := Lib.hid (show a.getD i 0 = x by rw [hx, getD_get (by rw [← Hn.out]; exact hlt)])
        have Hy := Lib.hid (show b.getD i 0 = y by rw [hy, getD_get (by rw [← Hm.out]; exact hlt)])
        clear hx hy
        by_cases hxy : x = y
        · subst hxy
          go_wp2_with fail
          go_quiet (fail)
          go_wp2_with fail
          go_roundw
          case rel => exact ⟨i + 1, by omega, by go_num, Lib.hid (fun j hj => by
            by_cases e : j = i
            · subst e; rw [Hx.out, Hy.out]
            · exact Hz.out j (by omega)), hE.drewN _⟩
          case measure => simp [intOf] <;> omega
        · have hb1 : (x == y) = false := beq_eq_false_iff_ne.2 hxy
          have hb2 : (x != y) = true := by simp [bne, hb1]
          have Hne := Lib.hid (show decide (a = b) = false from decide_eq_false (fun e => hxy (by rw [← Hx.out, ← Hy.out, e])))
          go_wp2_with fail
          go_quiet (fail)
          go_wp2_with fail
          go_ret
          exact ⟨by rw [Hne.out]; rfl, hE.drewN _⟩
      · have Heq := Lib.hid (show decide (a = b) = true from decide_eq_true (list_getD_ext (by rw [← Hn.out, ← Hm.out]) (fun j hj => Hz.out j (by rw [← Hn.out] at hj; omega))))
        go_wp2_with fail
        go_ret
        exact ⟨by rw [Heq.out]; rfl, hE⟩
  · have hne : decide (a = b) = false := decide_eq_false (fun e => hl (by rw [e]))
    rw [hne]
    have h1 : ¬ ((a.length : Int) = (b.length : Int)) := by omega
    have h2 : ((a.length : Int) == (b.length : Int)) = false := beq_eq_false_iff_ne.2 h1
    have h3 : ((a.length : Int) != (b.length : Int)) = true := by simp [bne, h2]
    clear hSa hSb hca hcb hne
    generalize a.length = n at *
    generalize b.length = m at *
    go_enter Tryz.func26, Tryz.ntmps26
    go_wp2_with fail
    go_ret
    exact ⟨rfl, Ext.refl _⟩
set_option maxRecDepth 100000 in
set_option maxHeartbeats 1000000 in
theorem Equal_any {w : World} {va vb : Value} {A B : Mx} (hA : MatR w va A) (hB : MatR w vb B) (hbig : A.length ≤ 1000000) (hbr : ∀ r ∈ A, r.length ≤ 1000000) :
    Calls Tryz.prog 17 #[va, vb] w fun e w' => e = .returned (.bool (decide (A = B))) ∧ Ext w w' := by
  obtain ⟨sa, ga, oa, ca, va', rfl, hca, hvA, hSa, hrA⟩ := hA
  obtain ⟨sb, gb, ob, cb, vb', rfl, hcb, hvB, hSb, hrB⟩ := hB
  by_cases hl : A.length = B.length
  · obtain ⟨n, hn⟩ : ∃ n, n = A.length := ⟨_, rfl⟩
    rw [← hl]
    rw [← hn] at hbig ⊢
    have HA := Lib.hid hSa
    have HB := Lib.hid hSb
    have HvA := Lib.hid hvA
    have HvB := Lib.hid hvB
    have HrA := Lib.hid hrA
    have HrB := Lib.hid hrB
    have Hn := Lib.hid hn
    have Hm := Lib.hid (hn.trans hl)
    clear hSa hSb hl hn hca hcb hvA hvB hrA hrB
    go_enter Tryz.func17, Tryz.ntmps17
    go_wp2_with fail
    go_loopw [5] (fun idx wr => ∃ i : Nat, i ≤ n ∧ idx = .int .i64 i ∧ Hid (∀ j, j < i → A.getD j [] = B.getD j []) ∧ Ext w wr) (fun idx _ => n - (intOf idx).toNat)
    case atStart => exact ⟨0, by omega, by go_num, Lib.hid (fun j h => by omega), Ext.refl _⟩
    case round =>
      obtain ⟨i, hi, rfl, Hz, hE⟩ := hrel
      generalize wr = X at *
      by_cases hlt : i < n
      · have hii : (i : Int) < (n : Int) := by omega
        have hiA : i < A.length := by rw [← Hn.out]; exact hlt
        have hiB : i < B.length := by rw [← Hm.out]; exact hlt
        obtain ⟨sx, bx, ox, cx, hrx, hcx, hSx⟩ := MatR.row HA.out HvA.out HrA.out hiA
        obtain ⟨sy, by', oy, cy, hry, hcy, hSy⟩ := MatR.row HB.out HvB.out HrB.out hiB
        obtain rfl := HA.out.addr (by rw [HvA.out]; omega)
        obtain rfl := HB.out.addr (by rw [HvB.out]; omega)
        have k1 := cell_regrown (hE.cell hrx)
        have k2 := cell_regrown (hE.cell hry)
        have hx1 : RowR X (.slice sx A[i].length cx) A[i] := ⟨sx, bx, ox, cx, rfl, hcx, hSx.ext hE⟩
        have hy1 : RowR X (.slice sy B[i].length cy) B[i] := ⟨sy, by', oy, cy, rfl, hcy, hSy.ext hE⟩
        obtain ⟨lx, hlx⟩ : ∃ l, l = A[i].length := ⟨_, rfl⟩
        obtain ⟨ly, hly⟩ : ∃ l, l = B[i].length := ⟨_, rfl⟩
        rw [← hlx] at k1 hx1
        rw [← hly] at k2 hy1
        clear hlx hly
        have hEQ := Lib.hid (fun V (hV : Ext X V) => EqualRows_any (w := V) (hx1.ext hV) (hy1.ext hV) (hbr _ (List.getElem_mem hiA)))
        have HxA := Lib.hid (show A.getD i [] = A[i] from getD_get hiA [])
        have HxB := Lib.hid (show B.getD i [] = B[i] from getD_get hiB [])
        obtain ⟨q, hq⟩ : ∃ q, q = decide (A[i] = B[i]) := ⟨_, rfl⟩
        rw [← hq] at hEQ
        have bE := Lib.hid (quietC (w := X) (fun V hV => hEQ.out V hV))
        have Hq := Lib.hid hq
        clear hrx hry hcx hcy hSx hSy hq hx1 hy1 hEQ
        cases q
        · have Hne := Lib.hid (show decide (A = B) = false from decide_eq_false (fun e => by
            have := Hq.out.symm
            rw [decide_eq_false_iff_not] at this
            exact this (by rw [← HxA.out, ← HxB.out, e])))
          clear Hq HxA HxB
          go_wp2_with fail
          refine wp_region_quiet_below (by kernel_rfl) (by kernel_rfl) ?_
          repeat (quiet_step (exact bE.out _ _))
          refine wpQuiet_nil ?_
          intro _ hw'
          obtain ⟨⟨dq, osq⟩, hw''⟩ := hw'
          subst hw''
          have hE2 := hE.trans (ext_regrown X dq osq)
          clear k1 k2 bE
          generalize hW6 : grow (redrawn _ _) _ = W6 at *
          clear hW6
          go_wp2_with fail
          go_ret
          exact ⟨by rw [Hne.out]; rfl, hE2⟩
        · have Hok := Lib.hid (show A.getD i [] = B.getD i [] by rw [HxA.out, HxB.out]; exact of_decide_eq_true Hq.out.symm)
          clear Hq HxA HxB
          go_wp2_with fail
          refine wp_region_quiet_below (by kernel_rfl) (by kernel_rfl) ?_
          repeat (quiet_step (exact bE.out _ _))
          refine wpQuiet_nil ?_
          intro _ hw'
          obtain ⟨⟨dq, osq⟩, hw''⟩ := hw'
          subst hw''
          have hE2 := hE.trans (ext_regrown X dq osq)
          clear k1 k2 bE
          generalize hW6 : grow (redrawn _ _) _ = W6 at *
          clear hW6
          go_wp2_with fail
          go_roundw
          case rel => exact ⟨i + 1, by omega, by go_num, Lib.hid (fun j hj => by
            by_cases e : j = i
            · subst e; exact Hok.out
            · exact Hz.out j (by omega)), hE2⟩
          case measure => simp [intOf] <;> omega
      · have Heq := Lib.hid (show decide (A = B) = true from decide_eq_true (mx_getD_ext (by rw [← Hn.out, ← Hm.out]) (fun j hj => Hz.out j (by rw [← Hn.out] at hj; omega))))
        go_wp2_with fail
        go_ret
        exact ⟨by rw [Heq.out]; rfl, hE⟩
  · have hne : decide (A = B) = false := decide_eq_false (fun e => hl (by rw [e]))
    rw [hne]
    have h1 : ¬ ((A.length : Int) = (B.length : Int)) := by omega
    have h2 : ((A.length : Int) == (B.length : Int)) = false := beq_eq_false_iff_ne.2 h1
    have h3 : ((A.length : Int) != (B.length : Int)) = true := by simp [bne, h2]
    clear hSa hSb hca hcb hne hrA hrB hvA hvB
    generalize A.length = n at *
    generalize B.length = m at *
    go_enter Tryz.func17, Tryz.ntmps17
    go_wp2_with fail
    go_ret
    exact ⟨rfl, Ext.refl _⟩
end Go.Proofs.YthmhmkkcjlgbjaaGreatDoor
/- literals in memory; the known answers in plain Lean -/
namespace Go.Proofs.YthmhmkkcjlgbjaaGreatDoor
open Go.RowKit Go.Sort
theorem row2 {W : World} {b : Nat} {x y : Int} (c0 : W.cell? ⟨b, 0, none⟩ = some (.int .i64 x)) (c1 : W.cell? ⟨b, 1, none⟩ = some (.int .i64 y)) : RowR W (.slice (some ⟨b, 0, none⟩) 2 2) [x, y] :=
  ⟨_, b, 0, 2, rfl, Nat.le_refl _, fun _ => rfl, fun i v hv => by
    match i, hv with
    | 0, hv => simp [is] at hv; rw [← hv]; exact c0
    | 1, hv => simp [is] at hv; rw [← hv]; exact c1
    | i + 2, hv => simp [is] at hv⟩
theorem row3 {W : World} {b : Nat} {x y z : Int} (c0 : W.cell? ⟨b, 0, none⟩ = some (.int .i64 x)) (c1 : W.cell? ⟨b, 1, none⟩ = some (.int .i64 y)) (c2 : W.cell? ⟨b, 2, none⟩ = some (.int .i64 z)) : RowR W (.slice (some ⟨b, 0, none⟩) 3 3) [x, y, z] :=
  ⟨_, b, 0, 3, rfl, Nat.le_refl _, fun _ => rfl, fun i v hv => by
    match i, hv with
    | 0, hv => simp [is] at hv; rw [← hv]; exact c0
    | 1, hv => simp [is] at hv; rw [← hv]; exact c1
    | 2, hv => simp [is] at hv; rw [← hv]; exact c2
    | i + 3, hv => simp [is] at hv⟩
theorem mat2 {W : World} {b : Nat} {v1 v2 : Value} {r1 r2 : List Int} (c0 : W.cell? ⟨b, 0, none⟩ = some v1) (c1 : W.cell? ⟨b, 1, none⟩ = some v2) (R1 : RowR W v1 r1) (R2 : RowR W v2 r2) : MatR W (.slice (some ⟨b, 0, none⟩) 2 2) [r1, r2] :=
  ⟨_, b, 0, 2, [v1, v2], rfl, Nat.le_refl _, rfl, ⟨fun _ => rfl, fun i v hv => by
    match i, hv with
    | 0, hv => simp at hv; rw [← hv]; exact c0
    | 1, hv => simp at hv; rw [← hv]; exact c1
    | i + 2, hv => simp at hv⟩, fun i h h' => by
    match i, h with
    | 0, _ => exact R1
    | 1, _ => exact R2⟩
theorem span2 {r1 r2 v : Hnf.V} (a b : Int) (h : ∀ j, v j = a * r1 j + b * r2 j) : Hnf.Span [r1, r2] v := by
  have e : v = Hnf.sub (Hnf.sub (fun _ => 0) (-a) r1) (-b) r2 := by
    funext j
    rw [h j]; simp only [Hnf.sub]; grind
  rw [e]
  exact Hnf.Span.step _ (Hnf.Span.step _ Hnf.Span.zero (by simp)) (by simp)
theorem vr3 {x y z x1 y1 z1 x2 y2 z2 : Int} (a b : Int) (h0 : x = a * x1 + b * x2) (h1 : y = a * y1 + b * y2) (h2 : z = a * z1 + b * z2) : ∀ j, vr [x, y, z] j = a * vr [x1, y1, z1] j + b * vr [x2, y2, z2] j
  | 0 => by simpa [vr] using h0
  | 1 => by simpa [vr] using h1
  | 2 => by simpa [vr] using h2
  | j + 3 => by simp [vr]
theorem known_hnf : HnfOf 3 [[-4, 4, -1], [7, 0, -3]] [[1, 20, -14], [0, 28, -19]] := by
  refine ⟨⟨_, isF_isH (fun r hr => ?_) (by decide)⟩, fun v hv => ?_, fun v hv => ?_⟩
  · simp at hr; rcases hr with rfl | rfl <;> rfl
  · simp only [latM, List.map_cons, List.map_nil, List.mem_cons, List.not_mem_nil, or_false] at hv
    rcases hv with rfl | rfl
    · exact span2 5 3 (vr3 5 3 (by decide) (by decide) (by decide))
    · exact span2 7 4 (vr3 7 4 (by decide) (by decide) (by decide))
  · simp only [latM, List.map_cons, List.map_nil, List.mem_cons, List.not_mem_nil, or_false] at hv
    rcases hv with rfl | rfl
    · exact span2 (-4) 3 (vr3 (-4) 3 (by decide) (by decide) (by decide))
    · exact span2 7 (-5) (vr3 7 (-5) (by decide) (by decide) (by decide))
theorem known_hnf2 : HnfOf 2 [[2, 0], [0, 3]] [[2, 0], [0, 3]] := by
  refine ⟨⟨_, isF_isH (fun r hr => ?_) (by decide)⟩, fun v hv => .mem hv, fun v hv => .mem hv⟩
  simp at hr; rcases hr with rfl | rfl <;> rfl
theorem known_c1 : checkM [[-4, 4, -1], [7, 0, -3]] = 0 := by decide
theorem known_k1 : bC ([[-4, 4, -1], [7, 0, -3]] : Mx).length 30 (ncols [[-4, 4, -1], [7, 0, -3]]) + 2 < LIM := by decide
theorem known_s1 : smallM [[1, 20, -14], [0, 28, -19]] = true := by decide
theorem known_o : openE [[2, 0], [0, 3]] [5, -1] = 0 := by decide
theorem known_x : redX [[2, 0], [0, 3]] [5, -1] = [1, 2] := by decide
theorem known_q : redQ [[2, 0], [0, 3]] [5, -1] = [2, -1] := by decide
theorem known_sm : (smallB [1, 2] && smallB [2, -1]) = true := by decide
theorem known_p : pairE [[1, 0], [0, 1]] [[2, 0], [0, 3]] = 0 := by decide
theorem known_k2 : 13 * (bC ([[2, 0], [0, 3]] : Mx).length 30 (ncols [[2, 0], [0, 3]]) + 2) < LIM := by decide
theorem known_in : inclB [[1, 0], [0, 1]] [[2, 0], [0, 3]] = true := by decide
theorem known_ix : idxN [[1, 0], [0, 1]] [[2, 0], [0, 3]] 2 = 6 := by decide
theorem I_six : I 6 = .string ⟨#[54]⟩ := by unfold I S; rw [show (6 : Int) = ((6 : Nat) : Int) from rfl, itoa_nat, Lib.decDigits]; rfl
theorem known_form {w : World} {v : Value} (hM : MatR w v [[-4, 4, -1], [7, 0, -3]]) (hL : Laid w) :
    Calls Tryz.prog 12 #[v] w fun e w' => ∃ u, e = .returned (.tuple #[u, .int .i64 0]) ∧ MatR w' u [[1, 20, -14], [0, 28, -19]] ∧ Ext w w' :=
  (form_any hM known_c1 known_k1 hL).mono fun e w' ⟨F, hF, hP, hE⟩ => by
    have : F = [[1, 20, -14], [0, 28, -19]] := hF.unique known_hnf (fun v hv => .mem hv) (fun v hv => .mem hv)
    subst this
    rw [if_pos known_s1] at hP
    obtain ⟨u, rfl, hO⟩ := hP
    exact ⟨u, rfl, hO.mat, hE⟩
theorem known_reduce {w : World} {v x : Value} (hM : MatR w v [[2, 0], [0, 3]]) (hx : RowR w x [5, -1]) (hL : Laid w) :
    Calls Tryz.prog 38 #[v, x] w fun e w' => ∃ u1 u2, e = .returned (.tuple #[u1, u2, .int .i64 0]) ∧ RowR w' u1 [1, 2] ∧ RowR w' u2 [2, -1] ∧ Ext w w' :=
  (Reduce_any hM hx hL).mono fun e w' ⟨hP, hE⟩ => by
    rw [if_pos known_o, known_x, known_q, if_pos known_sm] at hP
    obtain ⟨u1, u2, rfl, h1, h2⟩ := hP
    exact ⟨u1, u2, rfl, h1.row, h2.row, hE⟩
theorem known_index {w : World} {v u : Value} (hM : MatR w v [[1, 0], [0, 1]]) (hu : MatR w u [[2, 0], [0, 3]]) (hL : Laid w) :
    Calls Tryz.prog 14 #[v, u] w fun e w' => e = .returned (.tuple #[.string ⟨#[54]⟩, .bool true, .int .i64 0]) ∧ Ext w w' :=
  (Index_ok hM hu known_p known_k2 hL).mono fun e w' ⟨hP, hE⟩ => by
    rw [if_pos known_in] at hP
    obtain ⟨G, hG, hP⟩ := hP
    have : G = [[2, 0], [0, 3]] := hG.unique known_hnf2 (fun v hv => .mem hv) (fun v hv => .mem hv)
    subst this
    rw [if_neg (by decide), show ([[1, 0], [0, 1]] : Mx).length = 2 from rfl, known_ix, I_six] at hP
    exact ⟨hP, hE⟩
theorem eqr_same {w : World} {va vb : Value} {a : List Int} (hA : RowR w va a) (hB : RowR w vb a) (hb : a.length ≤ 1000000) :
    Calls Tryz.prog 26 #[va, vb] w fun e w' => e = .returned (.bool true) ∧ Ext w w' := by
  have := EqualRows_any hA hB hb
  rwa [decide_eq_true rfl] at this
theorem eqm_same {w : World} {va vb : Value} {A : Mx} (hA : MatR w va A) (hB : MatR w vb A) (hb : A.length ≤ 1000000) (hr : ∀ r ∈ A, r.length ≤ 1000000) :
    Calls Tryz.prog 17 #[va, vb] w fun e w' => e = .returned (.bool true) ∧ Ext w w' := by
  have := Equal_any hA hB hb hr
  rwa [decide_eq_true rfl] at this
end Go.Proofs.YthmhmkkcjlgbjaaGreatDoor
/- schismalaw07: known -/
namespace Go.Proofs.YthmhmkkcjlgbjaaGreatDoor
open Go.RowKit Go.Sort
set_option maxRecDepth 100000 in
set_option maxHeartbeats 2000000 in
theorem known_any {w : World} (hL : Laid w) : Calls Tryz.prog 10 #[] w fun e w' => e = .returned (.bool true) ∧ Ext w w' := by
  have HL := Lib.hid hL
  clear hL
  go_enter Tryz.func10, Tryz.ntmps10
  go_wp2_with fail
  refine (known_form (mat2 (v1 := .slice (some ⟨w.heap.size, 0, none⟩) 3 3) (v2 := .slice (some ⟨w.heap.size + 1, 0, none⟩) 3 3) (by go_simp) (by go_simp) (row3 (by go_simp) (by go_simp) (by go_simp)) (row3 (by go_simp) (by go_simp) (by go_simp))) (HL.out.ext ((((Ext.refl w).alloc _).alloc _).alloc _))).mono ?_
  rintro e w1 ⟨u, rfl, hu, hE1⟩
  have hE1' := Lib.hid (((((Ext.refl w).alloc _).alloc _).alloc _).trans hE1)
  have Hu := Lib.hid hu
  clear hu hE1
  go_wp2_with fail
  refine (known_reduce (mat2 (v1 := .slice (some ⟨w1.heap.size, 0, none⟩) 2 2) (v2 := .slice (some ⟨w1.heap.size + 1, 0, none⟩) 2 2) (by go_simp) (by go_simp) (row2 (by go_simp) (by go_simp)) (row2 (by go_simp) (by go_simp))) (row2 (by go_simp) (by go_simp)) (HL.out.ext (hE1'.out.trans (((((Ext.refl w1).alloc _).alloc _).alloc _).alloc _)))).mono ?_
  rintro e w2 ⟨u1, u2, rfl, hu1, hu2, hE2⟩
  have hE2' := Lib.hid (hE1'.out.trans ((((((Ext.refl w1).alloc _).alloc _).alloc _).alloc _).trans hE2))
  have Hu' := Lib.hid (Hu.out.ext ((((((Ext.refl w1).alloc _).alloc _).alloc _).alloc _).trans hE2))
  have Hu1 := Lib.hid hu1
  have Hu2 := Lib.hid hu2
  clear hu1 hu2 hE2 Hu hE1'
  go_wp2_with fail
  refine (known_index (mat2 (v1 := .slice (some ⟨w2.heap.size, 0, none⟩) 2 2) (v2 := .slice (some ⟨w2.heap.size + 1, 0, none⟩) 2 2) (by go_simp) (by go_simp) (row2 (by go_simp) (by go_simp)) (row2 (by go_simp) (by go_simp))) (mat2 (v1 := .slice (some ⟨w2.heap.size + 3, 0, none⟩) 2 2) (v2 := .slice (some ⟨w2.heap.size + 4, 0, none⟩) 2 2) (by go_simp) (by go_simp) (row2 (by go_simp) (by go_simp)) (row2 (by go_simp) (by go_simp))) (HL.out.ext (hE2'.out.trans (((((((Ext.refl w2).alloc _).alloc _).alloc _).alloc _).alloc _).alloc _)))).mono ?_
  rintro e w3 ⟨rfl, hE3⟩
  have hE23 := Lib.hid ((((((((Ext.refl w2).alloc _).alloc _).alloc _).alloc _).alloc _).alloc _).trans hE3)
  have hE3' := Lib.hid (hE2'.out.trans hE23.out)
  clear hE3 hE2'
  go_wp2_with fail
  refine (eqm_same (A := [[1, 20, -14], [0, 28, -19]]) (Hu'.out.ext (hE23.out.trans ((((Ext.refl w3).alloc _).alloc _).alloc _))) (mat2 (v1 := .slice (some ⟨w3.heap.size, 0, none⟩) 3 3) (v2 := .slice (some ⟨w3.heap.size + 1, 0, none⟩) 3 3) (by go_simp) (by go_simp) (row3 (by go_simp) (by go_simp) (by go_simp)) (row3 (by go_simp) (by go_simp) (by go_simp))) (by decide) (by decide)).mono ?_
  rintro e w4 ⟨rfl, hE4⟩
  have hE34 := Lib.hid (((((Ext.refl w3).alloc _).alloc _).alloc _).trans hE4)
  clear hE4
  go_wp2_with fail
  refine (eqr_same (a := [1, 2]) (Hu1.out.ext ((hE23.out.trans hE34.out).trans ((Ext.refl w4).alloc _))) (row2 (by go_simp) (by go_simp)) (by decide)).mono ?_
  rintro e w5 ⟨rfl, hE5⟩
  have hE45 := Lib.hid (((Ext.refl w4).alloc _).trans hE5)
  clear hE5
  go_wp2_with fail
  refine (eqr_same (a := [2, -1]) (Hu2.out.ext (((hE23.out.trans hE34.out).trans hE45.out).trans ((Ext.refl w5).alloc _))) (row2 (by go_simp) (by go_simp)) (by decide)).mono ?_
  rintro e w6 ⟨rfl, hE6⟩
  have hE56 := Lib.hid (((Ext.refl w5).alloc _).trans hE6)
  clear hE6
  go_wp2_with fail
  go_ret
  exact ⟨rfl, ((hE3'.out.trans hE34.out).trans hE45.out).trans hE56.out⟩
end Go.Proofs.YthmhmkkcjlgbjaaGreatDoor
/- schismaref07: Check -/
namespace Go.Proofs.YthmhmkkcjlgbjaaGreatDoor
open Go.RowKit Go.Sort
set_option maxRecDepth 100000 in
set_option maxHeartbeats 1000000 in
theorem Check07_any {w : World} {v : Value} {M : Mx} (hM : MatR w v M) :
    Calls Tryz.prog 20 #[v] w fun e w' => e = .returned (.int .i64 (checkM M)) ∧ Ext w w' := by
  obtain ⟨sa, gb, go, cap, vs, rfl, hcap, hvl, hS, hr⟩ := hM
  by_cases hbig : 12 < M.length
  · have hbi : (12 : Int) < (M.length : Int) := by omega
    have he : checkM M = 4 := by unfold checkM; rw [if_pos hbig]
    rw [he]
    clear he hS hr hvl
    go_enter Tryz.func20, Tryz.ntmps20
    go_wp2_with fail
    go_ret
    exact ⟨rfl, Ext.refl _⟩
  have he : checkM M = chk (M.getD 0 []).length M := by unfold checkM; rw [if_neg hbig]
  rw [he]
  obtain ⟨E0, hE0⟩ : ∃ E0, E0 = chk (M.getD 0 []).length M := ⟨_, rfl⟩
  rw [← hE0]
  have HE0 := Lib.hid hE0
  have hml : M.length ≤ 12 := by omega
  have hmi : (M.length : Int) ≤ 12 := by omega
  have HS := Lib.hid hS
  have HV := Lib.hid hvl
  have HR := Lib.hid hr
  clear hS hvl hr he hbig hE0
  go_enter Tryz.func20, Tryz.ntmps20
  go_wp2_with fail
  go_loopw [3] (fun idx wr => ∃ i : Nat, i ≤ M.length ∧ idx = .int .i64 i ∧ Hid (∀ j (h : j < M.length), j < i → chkR (M.getD 0 []).length M[j] = 0) ∧ Ext w wr) (fun idx _ => M.length - (intOf idx).toNat)
  case atStart => exact ⟨0, by omega, by go_num, Lib.hid (fun j _ h => by omega), Ext.refl _⟩
  case round =>
    obtain ⟨i, hi, rfl, Hz, hE⟩ := hrel
    generalize wr = X at *
    by_cases hlt : i < M.length
    · have hii : (i : Int) < (M.length : Int) := by omega
      have hi0 : 0 < M.length := by omega
      have hi0i : (0 : Int) < (M.length : Int) := by omega
      obtain rfl := HS.out.addr (by rw [HV.out]; omega)
      obtain ⟨sr, br, or, cr, hrow, hrc, hSr⟩ := MatR.row HS.out HV.out HR.out hlt
      obtain ⟨s0, b0, o0, c0, hrow0, hrc0, hS0⟩ := MatR.row HS.out HV.out HR.out hi0
      have hrow' := hE.cell hrow
      have hrow0' := hE.cell hrow0
      rw [Nat.add_zero] at hrow0'
      obtain ⟨c, hc⟩ : ∃ c, c = (M.getD 0 []).length := ⟨_, rfl⟩
      have hc0 : M[0].length = c := by rw [hc, getD_get hi0]
      rw [hc0] at hrow0'
      obtain ⟨n, hn⟩ : ∃ n, n = M[i].length := ⟨_, rfl⟩
      rw [← hn] at hrow'
      have HC := Lib.hid hc
      have Hn := Lib.hid hn
      have hat : chkR c M[i] ≠ 0 → chk (M.getD 0 []).length M = chkR c M[i] := fun h => by
        rw [hc]
        exact chk_at _ M i hlt (fun j hj => Hz.out j (by omega) hj) (by rw [← hc]; exact h)
      have Hat := Lib.hid hat
      have HSr := Lib.hid (hSr.ext hE)
      clear hrow hrow0 hrc0 hS0 hc hc0 hn hat hSr
      by_cases h12 : 12 < n
      · have h12i : (12 : Int) < (n : Int) := by omega
        have hch : chkR c M[i] = 4 := by unfold chkR; rw [← Hn.out, if_pos h12]
        have Hch := Lib.hid hch
        clear hch
        go_wp2_with fail
        go_ret
        exact ⟨by rw [HE0.out, Hat.out (by rw [Hch.out]; decide), Hch.out]; rfl, hE⟩
      · have h12i : (n : Int) ≤ 12 := by omega
        have h12d : decide ((12 : Int) < (n : Int)) = false := decide_eq_false (by omega)
        by_cases hnc : n = c
        · subst hnc
          clear h12
          go_wp2_with fail
          go_quiet (fail)
          have hE2 := hE.drewN 1
          go_wp2_with fail
          go_loopw [4] (fun idx wr => ∃ k : Nat, k ≤ n ∧ idx = .int .i64 k ∧ Hid (∀ j, j < k → grt (M[i].getD j 0) = false) ∧ Ext X wr) (fun idx _ => n - (intOf idx).toNat)
          case atStart => exact ⟨0, by omega, by go_num, Lib.hid (fun j h => by omega), (Ext.refl _).drewN _⟩
          case round =>
            obtain ⟨k, hk, rfl, Hg, hEk⟩ := hrel
            generalize wr = Y at *
            by_cases hkn : k < n
            · have hki : (k : Int) < (n : Int) := by omega
              have hkM : k < M[i].length := by rw [← Hn.out]; exact hkn
              have c1 := (HSr.out.ext hEk).cell k (.int .i64 (M[i][k])) (is_get hkM)
              obtain rfl := HSr.out.addr (by rw [is_length, ← Hn.out]; omega)
              have hrowY := hEk.cell hrow'
              obtain ⟨z, hz⟩ : ∃ z, z = M[i][k] := ⟨_, rfl⟩
              rw [← hz] at c1
              have Hz2 := Lib.hid (show M[i].getD k 0 = z by rw [hz, getD_get hkM])
              have hno : grt z = true → chkR n M[i] = 4 := fun h => by
                have : M[i].any grt = true := List.any_eq_true.2 ⟨M[i][k], List.getElem_mem hkM, by rw [← hz]; exact h⟩
                unfold chkR; rw [← Hn.out, if_neg (by omega), if_neg (by omega), this]; rfl
              have Hno := Lib.hid hno
              clear hz hno
              by_cases g1 : 1000000000 < z
              · have hch := Hno.out (by unfold grt; exact decide_eq_true (.inl g1))
                have Hch := Lib.hid hch
                clear hch
                go_wp2_with fail
                go_ret
                exact ⟨by rw [HE0.out, Hat.out (by rw [Hch.out]; decide), Hch.out]; rfl, hE.trans hEk⟩
              · have g1d : decide (1000000000 < z) = false := decide_eq_false g1
                by_cases g2 : z < -1000000000
                · have hch := Hno.out (by unfold grt; exact decide_eq_true (.inr g2))
                  have Hch := Lib.hid hch
                  clear hch
                  go_wp2_with fail
                  go_ret
                  exact ⟨by rw [HE0.out, Hat.out (by rw [Hch.out]; decide), Hch.out]; rfl, hE.trans hEk⟩
                · have g2d : decide (z < -1000000000) = false := decide_eq_false g2
                  have Hgz := Lib.hid (show grt z = false by unfold grt; exact decide_eq_false (by omega))
                  clear g1 g2
                  go_wp2_with fail
                  go_roundw
                  case rel => exact ⟨k + 1, by omega, by go_num, Lib.hid (fun j hj => by
                    by_cases e : j = k
                    · subst e; rw [Hz2.out]; exact Hgz.out
                    · exact Hg.out j (by omega)), hEk⟩
                  case measure => simp [intOf] <;> omega
            · have hrowY := hEk.cell hrow'
              have Hok := Lib.hid (show chkR n M[i] = 0 by
                have hany : M[i].any grt = false := by
                  cases h : M[i].any grt
                  · rfl
                  · obtain ⟨z, hz, hg⟩ := List.any_eq_true.1 h
                    obtain ⟨j, hj, rfl⟩ := List.getElem_of_mem hz
                    have := Hg.out j (by have := Hn.out; omega)
                    rw [getD_get hj] at this
                    rw [this] at hg; cases hg
                unfold chkR; rw [← Hn.out, if_neg (by omega), if_neg (by omega), hany]; rfl)
              go_wp2_with fail
              go_roundw
              case rel => exact ⟨i + 1, by omega, by go_num, Lib.hid (fun j h hj => by
                by_cases e : j = i
                · subst e; rw [← HC.out]; exact Hok.out
                · exact Hz.out j h (by omega)), hE.trans hEk⟩
              case measure => simp [intOf] <;> omega
        · have hch : chkR c M[i] = 5 := by unfold chkR; rw [← Hn.out, if_neg h12, if_pos hnc]
          have Hch := Lib.hid hch
          have hnb : ((n : Int) == (c : Int)) = false := beq_eq_false_iff_ne.2 (by omega)
          have hnb2 : ((n : Int) != (c : Int)) = true := by simp [bne, hnb]
          have hnc' : ¬ (n : Int) = (c : Int) := by omega
          clear hch hnc h12
          go_wp2_with fail
          go_quiet (fail)
          go_wp2_with fail
          go_ret
          exact ⟨by rw [HE0.out, Hat.out (by rw [Hch.out]; decide), Hch.out]; rfl, hE.drewN _⟩
    · have Hch := Lib.hid (chk_all (M.getD 0 []).length M (fun j h => Hz.out j h (by omega)))
      go_wp2_with fail
      go_ret
      exact ⟨by rw [HE0.out, Hch.out]; rfl, hE⟩
end Go.Proofs.YthmhmkkcjlgbjaaGreatDoor
/- schismalaw07: few, none -/
namespace Go.Proofs.YthmhmkkcjlgbjaaGreatDoor
open Go.RowKit Go.Sort
/-- few, but for the number of rows. -/
def fewRow (n : Nat) (r : List Int) : Bool := !(decide (5 < r.length) && (decide (1 < n) || decide (14 < r.length)))
def fewN (n : Nat) : Bool := decide (n ≤ 5) || (decide (12 ≤ n) && decide (n ≤ 14))
def fewM (M : Mx) : Bool := fewN M.length && M.all (fewRow M.length)
set_option maxRecDepth 100000 in
set_option maxHeartbeats 1000000 in
theorem few_any {w : World} {v : Value} {M : Mx} (hM : MatR w v M) :
    Calls Tryz.prog 19 #[v] w fun e w' => e = .returned (.bool (fewM M)) ∧ Ext w w' := by
  obtain ⟨sa, gb, go, cap, vs, rfl, hcap, hvl, hS, hr⟩ := hM
  have HS := Lib.hid hS
  have HV := Lib.hid hvl
  have HR := Lib.hid hr
  clear hS hvl hr
  obtain ⟨n, hn⟩ : ∃ n, n = M.length := ⟨_, rfl⟩
  rw [← hn]
  have Hn := Lib.hid hn
  clear hn hcap
  by_cases h1 : fewN n = true
  · have Hall : Hid (fewM M = M.all (fewRow n)) := Lib.hid (by unfold fewM; rw [← Hn.out, h1]; rfl)
    have H1 := Lib.hid h1
    have hA : (n : Int) ≤ 5 ∨ ((5 : Int) < n ∧ (12 : Int) ≤ n ∧ (n : Int) ≤ 14) := by
      unfold fewN at h1
      by_cases h5 : n ≤ 5
      · exact .inl (by omega)
      · rw [decide_eq_false h5, Bool.false_or, Bool.and_eq_true] at h1
        have ha := of_decide_eq_true h1.1
        have hb := of_decide_eq_true h1.2
        exact .inr ⟨by omega, by omega, by omega⟩
    have hnb : n ≤ 1000000 := by omega
    clear h1
    go_enter Tryz.func19, Tryz.ntmps19
    rcases hA with h | ⟨h5, h12, h14⟩
    focus
      have hd : decide ((5 : Int) < (n : Int)) = false := decide_eq_false (by omega)
      go_wp2_with fail
    rotate_left
    focus
      have hd : decide ((n : Int) < 12) = false := decide_eq_false (by omega)
      have hd2 : decide ((14 : Int) < (n : Int)) = false := decide_eq_false (by omega)
      go_wp2_with fail
    all_goals
      go_loopw [3] (fun idx wr => ∃ i : Nat, i ≤ n ∧ idx = .int .i64 i ∧ Hid (∀ j, (h : j < M.length) → j < i → fewRow n M[j] = true) ∧ Ext w wr) (fun idx _ => n - (intOf idx).toNat)
      case atStart => exact ⟨0, by omega, by go_num, Lib.hid (fun j _ h => by omega), Ext.refl _⟩
      case round =>
        obtain ⟨i, hi, rfl, Hz, hE⟩ := hrel
        generalize wr = X at *
        by_cases hlt : i < n
        · have hii : (i : Int) < (n : Int) := by omega
          have hiM : i < M.length := by rw [← Hn.out]; exact hlt
          obtain rfl := HS.out.addr (by rw [HV.out]; omega)
          obtain ⟨sr, br, or, cr, hrow, hrc, hSr⟩ := MatR.row HS.out HV.out HR.out hiM
          have hrow' := hE.cell hrow
          obtain ⟨l, hl⟩ : ∃ l, l = M[i].length := ⟨_, rfl⟩
          rw [← hl] at hrow'
          have Hl := Lib.hid hl
          clear hrow hrc hSr hl
          cases hf : fewRow n M[i]
          · have Hno := Lib.hid (show fewM M = false by
              rw [Hall.out]
              cases h : M.all (fewRow n)
              · rfl
              · have := List.all_eq_true.1 h _ (List.getElem_mem hiM); rw [hf] at this; cases this)
            unfold fewRow at hf
            rw [← Hl.out, Bool.not_eq_false', Bool.and_eq_true] at hf
            have h5 : (5 : Int) < (l : Int) := by have := of_decide_eq_true hf.1; omega
            by_cases hn1 : 1 < n
            · have hn1i : (1 : Int) < (n : Int) := by omega
              clear hf
              go_wp2_with fail
              go_ret
              exact ⟨by rw [Hno.out]; rfl, hE⟩
            · have hn1i : (n : Int) ≤ 1 := by omega
              have hn1d : decide ((1 : Int) < (n : Int)) = false := decide_eq_false (by omega)
              have h14 : (14 : Int) < (l : Int) := by
                rcases (by simpa only [Bool.or_eq_true] using hf.2 : decide (1 < n) = true ∨ decide (14 < l) = true) with h | h
                · exact absurd (of_decide_eq_true h) hn1
                · have := of_decide_eq_true h; omega
              clear hf
              go_wp2_with fail
              go_ret
              exact ⟨by rw [Hno.out]; rfl, hE⟩
          · have Hst := Lib.hid (show ∀ j, (h : j < M.length) → j < i + 1 → fewRow n M[j] = true from fun j h hj => by
              by_cases e : j = i
              · subst e; exact hf
              · exact Hz.out j h (by omega))
            unfold fewRow at hf
            rw [← Hl.out, Bool.not_eq_true'] at hf
            by_cases h5 : 5 < l
            · have h5i : (5 : Int) < (l : Int) := by omega
              rw [decide_eq_true h5, Bool.true_and, Bool.or_eq_false_iff] at hf
              have hn1 : ¬ 1 < n := of_decide_eq_false hf.1
              have h14 : ¬ 14 < l := of_decide_eq_false hf.2
              have hn1i : (n : Int) ≤ 1 := by omega
              have hn1d : decide ((1 : Int) < (n : Int)) = false := decide_eq_false (by omega)
              have h14d : decide ((14 : Int) < (l : Int)) = false := decide_eq_false (by omega)
              clear hf hn1 h14 h5
              go_wp2_with fail
              go_roundw
              case rel => exact ⟨i + 1, by omega, by go_num, Hst, hE⟩
              case measure => simp [intOf] <;> omega
            · have h5i : (l : Int) ≤ 5 := by omega
              have h5d : decide ((5 : Int) < (l : Int)) = false := decide_eq_false (by omega)
              clear hf h5
              go_wp2_with fail
              go_roundw
              case rel => exact ⟨i + 1, by omega, by go_num, Hst, hE⟩
              case measure => simp [intOf] <;> omega
        · have Hyes := Lib.hid (show fewM M = true by
            rw [Hall.out]
            refine List.all_eq_true.2 fun r hr => ?_
            obtain ⟨j, hj, rfl⟩ := List.getElem_of_mem hr
            exact Hz.out j hj (by have := Hn.out; omega))
          go_wp2_with fail
          go_ret
          exact ⟨by rw [Hyes.out]; rfl, hE⟩
  · have Hno := Lib.hid (show fewM M = false by unfold fewM; rw [← Hn.out, Bool.eq_false_iff.2 h1]; rfl)
    have hA : ((5 : Int) < n ∧ (n : Int) < 12) ∨ ((5 : Int) < n ∧ (12 : Int) ≤ n ∧ (14 : Int) < n) := by
      have h2 := Bool.eq_false_iff.2 h1
      unfold fewN at h2
      rw [Bool.or_eq_false_iff, Bool.and_eq_false_iff] at h2
      have h5 : ¬ n ≤ 5 := of_decide_eq_false h2.1
      rcases h2.2 with h | h
      · have := of_decide_eq_false h; exact .inl ⟨by omega, by omega⟩
      · have := of_decide_eq_false h; exact .inr ⟨by omega, by omega, by omega⟩
    rw [Hno.out]
    clear h1
    go_enter Tryz.func19, Tryz.ntmps19
    rcases hA with ⟨h5, h12⟩ | ⟨h5, h12, h14⟩
    · go_wp2_with fail
      go_ret
      exact ⟨rfl, Ext.refl _⟩
    · have hd : decide ((n : Int) < 12) = false := decide_eq_false (by omega)
      go_wp2_with fail
      go_ret
      exact ⟨rfl, Ext.refl _⟩
/-- none without rows: whether the matrix is empty. -/
theorem none_nil {sa : Option Addr} {n cp : Nat} (w : World) : Calls Tryz.prog 24 #[.slice sa n cp, .slice none 0 0] w fun e w' => e = .returned (.bool (decide (n = 0))) ∧ Ext w w' := by
  by_cases h : n = 0
  · subst h
    go_enter Tryz.func24, Tryz.ntmps24
    go_wp2_with fail
    go_loop [5] (fun idx => idx = .int .i64 0) (fun _ => 0)
    case atStart => rfl
    case round =>
      obtain rfl := hrel
      go_wp2_with fail
      go_ret
      exact ⟨rfl, Ext.refl _⟩
  · rw [decide_eq_false h]
    have h0 : ((n : Int) == 0) = false := beq_eq_false_iff_ne.2 (by omega)
    go_enter Tryz.func24, Tryz.ntmps24
    go_wp2_with fail
    go_loop [5] (fun idx => idx = .int .i64 0) (fun _ => 0)
    case atStart => rfl
    case round =>
      obtain rfl := hrel
      go_wp2_with fail
      go_ret
      exact ⟨rfl, Ext.refl _⟩
end Go.Proofs.YthmhmkkcjlgbjaaGreatDoor
