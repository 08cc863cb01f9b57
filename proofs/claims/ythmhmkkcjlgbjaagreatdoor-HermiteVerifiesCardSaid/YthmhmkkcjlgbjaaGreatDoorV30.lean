/- Part 30 of the proof of the claim: contracts of the functions that it reaches, and plain laws; no condition. -/
import Derived.Test.YthmhmkkcjlgbjaaGreatDoorV29
import Derived.Test.YthmhmkkcjlgbjaaGreatDoorV22
/- hermite: product -/
namespace Go.Proofs.YthmhmkkcjlgbjaaGreatDoor
open Go.RowKit Go.Sort
/-- The sums behind i rows and c columns. -/
def stP (by' : List Int) (M : Mx) (n i c : Nat) : List Int := (List.range n).map fun j => if j < c then dotB by' M j (i + 1) else dotB by' M j i
theorem stP_length (by' : List Int) (M : Mx) (n i c : Nat) : (stP by' M n i c).length = n := by simp [stP]
theorem stP_get {by' : List Int} {M : Mx} {n i c j : Nat} (h : j < n) : (stP by' M n i c)[j]'(by rw [stP_length]; exact h) = if j < c then dotB by' M j (i + 1) else dotB by' M j i := by simp [stP]
theorem stP_next (by' : List Int) (M : Mx) (n i : Nat) : stP by' M n i n = stP by' M n (i + 1) 0 := by
  refine List.ext_getElem (by simp [stP_length]) fun j h1 h2 => ?_
  have hj : j < n := by rw [stP_length] at h1; exact h1
  rw [stP_get hj, stP_get hj, if_pos hj, if_neg (by omega)]
theorem stP_step {by' : List Int} {M : Mx} {n i c : Nat} (h : c < n) : stP by' M n i (c + 1) = (stP by' M n i c).set c (dotB by' M c i + by'.getD i 0 * eM M i c) := by
  refine List.ext_getElem (by simp [stP_length]) fun j h1 h2 => ?_
  have hj : j < n := by rw [stP_length] at h1; exact h1
  rw [stP_get hj]
  by_cases e : j = c
  · subst e; rw [List.getElem_set_self, if_pos (by omega), dotB]
  · rw [List.getElem_set_ne (Ne.symm e), stP_get hj]
    by_cases hb : j < c
    · rw [if_pos hb, if_pos (by omega)]
    · rw [if_neg hb, if_neg (by omega)]
theorem stP_zero (by' : List Int) (M : Mx) (n : Nat) : stP by' M n 0 0 = List.replicate n 0 := by
  refine List.ext_getElem (by simp [stP_length]) fun j h1 h2 => ?_
  have hj : j < n := by rw [stP_length] at h1; exact h1
  rw [stP_get hj, if_neg (by omega)]; simp [dotB]
theorem stP_all (by' : List Int) (M : Mx) (n : Nat) : stP by' M n M.length 0 = prodR by' M n := by
  unfold stP prodR
  simp
set_option maxRecDepth 100000 in
set_option maxHeartbeats 4000000 in
theorem hproduct_any {w : World} {vm vb : Value} {M : Mx} {b : List Int} (hM : MatR w vm M) (hB : RowR w vb b) (hR : Rect (ncols M) M) (hlb : b.length = M.length) (hn : ncols M ≤ 12) (hl : M.length ≤ 12)
    (hbM : ∀ r ∈ M, ∀ z ∈ r, -1000000000 ≤ z ∧ z ≤ 1000000000) (hbb : ∀ z ∈ b, -1000000000 ≤ z ∧ z ≤ 1000000000) (hL : Laid w) :
    Calls Tryz.prog 75 #[vm, vb] w fun e w' => ∃ g cap, e = .returned (slv g (ncols M) cap) ∧ OwnV 38 w.heap.size w' g cap (ss (prodR b M (ncols M))) ∧ Ext w w' := by
  have h30 : ∀ z : Int, -1000000000 ≤ z ∧ z ≤ 1000000000 → z.natAbs < 2 ^ 30 := fun z hz => by
    have e : (2 : Nat) ^ 30 = 1073741824 := by decide
    rw [e]; omega
  have HbM := Lib.hid hbM
  have Hbb := Lib.hid hbb
  have Hdb := Lib.hid (fun c i (hi : i ≤ 1000) => show nd (dotB b M c i) ≤ 71 from by
    have h := dotB_bd (a := b) (B := M) (c := c) (fun z hz => h30 z (hbb z hz)) (fun r hr z hz => h30 z (hbM r hr z hz)) i
    refine nd_lt2 (E := 70) (Nat.lt_of_le_of_lt h ?_)
    rw [show (2 : Nat) ^ 70 = 1024 * 2 ^ 60 by rw [show (1024 : Nat) = 2 ^ 10 by decide, ← Nat.pow_add]]
    exact Nat.mul_lt_mul_of_pos_right (by omega) (Nat.two_pow_pos 60))
  have HL := Lib.hid hL
  have HR := Lib.hid hR
  have hcol := Lib.hid (fun W (hW : Ext w W) => columns_any (hM.ext hW))
  obtain ⟨sa, gb, go, cap, vs, rfl, hcap, hvl, hSl, hr⟩ := hM
  obtain ⟨sb, bb, ob, cb, rfl, hbc, hSb⟩ := hB
  have HSl := Lib.hid hSl
  have Hvl := Lib.hid hvl
  have Hr := Lib.hid hr
  have HSb := Lib.hid hSb
  obtain ⟨m, hm⟩ : ∃ m, m = M.length := ⟨_, rfl⟩
  obtain ⟨n, hnn⟩ : ∃ n, n = ncols M := ⟨_, rfl⟩
  have Hm := Lib.hid hm
  have Hn := Lib.hid hnn
  simp only [← hm, ← hnn] at hcol
  have Hlb := Lib.hid (show b.length = m by rw [hlb, hm])
  rw [hlb, ← hm] at hbc ⊢
  rw [← hm] at hcap hl
  rw [← hnn] at hn ⊢
  have hEw := (Ext.refl w).alloc (.cells #[.string ⟨#[48]⟩] 38)
  have hI0 : I 0 = .string ⟨#[48]⟩ := by
    unfold I S; rw [show (0 : Int) = ((0 : Nat) : Int) from rfl, itoa_nat, Lib.decDigits]; rfl
  have c0 : (w.alloc (.cells #[.string ⟨#[48]⟩] 38)).cell? ⟨w.heap.size, 0, none⟩ = some (I 0) := by rw [hI0]; go_simp
  have HC0 := Lib.hid c0
  clear hbM hbb hL hR hlb hvl hSl hr hSb hm hnn h30 hI0 c0
  go_enter Tryz.func75, Tryz.ntmps75
  go_wp2_with fail
  refine (hcol.out _ hEw).mono ?_
  rintro e w1 ⟨rfl, hE1⟩
  have hrep := Lib.hid (repeat_any (m := n) (by omega) (w := w1) (b := w.heap.size) (o := 0) (c := 1) (z := 0) (hE1.cell HC0.out))
  have hEw1 := hEw.trans hE1
  clear hcol
  go_wp2_with fail
  refine hrep.out.mono ?_
  rintro e w2 ⟨g, cp, rfl, hO, hE2⟩
  have hEw2 := hEw1.trans hE2
  have HO := Lib.hid (show OwnV 38 w.heap.size w2 g cp (ss (stP b M n 0 0)) by rw [stP_zero]; exact hO.mono hEw1.size)
  clear hrep hO
  go_wp2_with fail
  go_loopw [16] (fun idx wr => ∃ i : Nat, i ≤ m ∧ idx = .int .i64 i ∧ Hid (OwnV 38 w.heap.size wr g cp (ss (stP b M n i 0))) ∧ Ext w wr) (fun idx _ => m - (intOf idx).toNat)
  case atStart => exact ⟨0, by omega, by go_num, HO, hEw2⟩
  case round =>
    obtain ⟨i, hi, rfl, hO, hE⟩ := hrel
    generalize wr = X at *
    by_cases hlt : i < m
    · have hii : (i : Int) < (m : Int) := by omega
      have hir : i < M.length := by rw [← Hm.out]; exact hlt
      obtain rfl := HSl.out.addr (by rw [Hvl.out]; omega)
      obtain ⟨sr, br, or, cr, hrow, hrc, hSr⟩ := MatR.row HSl.out Hvl.out Hr.out hir
      obtain ⟨r, hrr⟩ : ∃ r, r = M[i] := ⟨_, rfl⟩
      have hmem : r ∈ M := by rw [hrr]; exact List.getElem_mem hir
      have hrl : r.length = n := by rw [Hn.out]; exact HR.out r hmem
      rw [← hrr] at hrow hrc hSr
      rw [hrl] at hrow
      have hrow' := hE.cell hrow
      have HSr := Lib.hid hSr
      have Hrl := Lib.hid hrl
      have Hre := Lib.hid (HbM.out r hmem)
      have HrM := Lib.hid (show ∀ c, eM M i c = r.getD c 0 from fun c => by unfold eM; rw [getD_get hir, hrr])
      have hib : i < b.length := by rw [Hlb.out]; exact hlt
      obtain rfl := HSb.out.addr (by rw [is_length]; omega)
      obtain ⟨x, hx⟩ : ∃ x, x = b[i] := ⟨_, rfl⟩
      have cx := HSb.out.cell i (.int .i64 x) (by rw [hx]; exact is_get hib)
      have hxe := Hbb.out x (by rw [hx]; exact List.getElem_mem hib)
      have Hx := Lib.hid (show b.getD i 0 = x by rw [getD_get hib, hx])
      have HCx := Lib.hid cx
      clear hrr hmem hrl hrow hrc hSr hx cx hir
      go_wp2_with fail
      go_loopw [23] (fun idx wr => ∃ c : Nat, c ≤ n ∧ idx = .int .i64 c ∧ Hid (OwnV 38 w.heap.size wr g cp (ss (stP b M n i c))) ∧ Ext w wr) (fun idx _ => n - (intOf idx).toNat)
      case atStart => exact ⟨0, by omega, by go_num, hO, hE⟩
      case round =>
        obtain ⟨c, hc, rfl, hOc, hEY⟩ := hrel
        generalize wr = Y at *
        by_cases hltc : c < n
        · have hci : (c : Int) < (n : Int) := by omega
          have hcr : c < r.length := by rw [Hrl.out]; exact hltc
          obtain rfl := HSr.out.addr (by rw [is_length]; omega)
          obtain ⟨y, hy⟩ : ∃ y, y = r[c] := ⟨_, rfl⟩
          have cy := hEY.cell (HSr.out.cell c (.int .i64 y) (by rw [hy]; exact is_get hcr))
          have hye := Hre.out y (by rw [hy]; exact List.getElem_mem hcr)
          have cxY := hEY.cell HCx.out
          obtain ⟨s, hs⟩ : ∃ s, s = dotB b M c i := ⟨_, rfl⟩
          have hsl : c < (stP b M n i c).length := by rw [stP_length]; exact hltc
          have co : Y.cell? ⟨g, c, none⟩ = some (I s) := by
            rw [hOc.out.cell (by simpa using hsl)]
            simp only [ss, List.getElem_map]
            rw [stP_get hltc, if_neg (by omega), hs]
          have fo := hOc.out.frozen c
          have Hstep := Lib.hid (show stP b M n i (c + 1) = (stP b M n i c).set c (s + x * y) by
            rw [stP_step hltc, hs, Hx.out, HrM.out, getD_get hcr, hy])
          have hns : nd s ≤ 71 := by rw [hs]; exact Hdb.out c i (by omega)
          have h30 : ∀ z : Int, -1000000000 ≤ z ∧ z ≤ 1000000000 → nd z ≤ 31 := fun z hz => nd_lt2 (E := 30) (by
            have e : (2 : Nat) ^ 30 = 1073741824 := by decide
            rw [e]; omega)
          have hnx := h30 x hxe
          have hny := h30 y hye
          have hnxy : nd (x * y) ≤ 62 := nd_lt2 (E := 61) (by
            rw [Int.natAbs_mul]
            have h1 : x.natAbs * y.natAbs ≤ 1000000000 * 1000000000 := Nat.mul_le_mul (by omega) (by omega)
            have e : (2 : Nat) ^ 61 = 2305843009213693952 := by decide
            rw [e]; omega)
          have q1 := Lib.hid (fun W (hW : Ext Y W) => wholeOf_any (n := x) (w := W) (by omega) (by omega) (HL.out.ext (hEY.trans hW)))
          have q2 := Lib.hid (fun W (hW : Ext Y W) => wholeOf_any (n := y) (w := W) (by omega) (by omega) (HL.out.ext (hEY.trans hW)))
          have q3 := Lib.hid (fun W (hW : Ext Y W) => Mul_any (a := x) (b := y) (w := W) (by unfold LIM; omega) (HL.out.ext (hEY.trans hW)))
          have q4 := Lib.hid (fun W (hW : Ext Y W) => Add_any (a := s) (b := x * y) (w := W) (by unfold LIM; omega) (by unfold LIM; omega) (HL.out.ext (hEY.trans hW)))
          have c1 := quietC (w := Y) (fun W h => q1.out W h)
          have c2 := quietC (w := Y) (fun W h => q2.out W h)
          have c3 := quietC (w := Y) (fun W h => q3.out W h)
          have c4 := quietC (w := Y) (fun W h => q4.out W h)
          have k1 := cell_regrown co
          have k2 := cell_regrown cxY
          clear hy hs hsl hns h30 hnx hny hnxy q1 q2 q3 q4 hxe hye
          go_wp2_with fail
          refine wp_region_quiet_tail 16 (by kernel_rfl) (by kernel_rfl) ?_
          simp only [List.take_succ_cons, List.take_zero, List.drop_succ_cons, List.drop_zero]
          repeat (quiet_step (first | (with_reducible exact c1 _ _) | (with_reducible exact c2 _ _) | (with_reducible exact c3 _ _) | (with_reducible exact c4 _ _)))
          refine wpQuiet_nil ?_
          intro _ hw'
          obtain ⟨⟨dq, osq⟩, hw''⟩ := hw'
          subst hw''
          have hE5 := ext_regrown Y dq osq
          clear c1 c2 c3 c4 k1 k2
          generalize grow (redrawn Y dq) osq = w5 at *
          have hO5 := hOc.out.ext hE5
          have f5 := hO5.frozen c
          have d5 := hE5.cell co
          obtain ⟨hO6, hG6⟩ := hO5.set c (I (s + x * y))
          rw [← ss_set, ← Hstep.out] at hO6
          have HO6 := Lib.hid hO6
          have hE6 := ext_trans_grown (hEY.trans hE5) hG6 hO5.lt.1
          clear hE5 hO5 hG6 hO6 cy cxY co fo
          go_wp2_with fail
          go_roundw
          case rel => exact ⟨c + 1, by omega, by go_num, HO6, hE6⟩
          case measure => simp [intOf] <;> omega
        · have hcn : c = n := by omega
          subst hcn
          have HO7 := Lib.hid (show OwnV 38 w.heap.size Y g cp (ss (stP b M c (i + 1) 0)) by rw [← stP_next]; exact hOc.out)
          have hci : ¬ (c : Int) < (c : Int) := by omega
          go_wp2_with fail
          go_roundw
          case rel => exact ⟨i + 1, by omega, by go_num, HO7, hEY⟩
          case measure => simp [intOf] <;> omega
    · have hie : i = M.length := by rw [← Hm.out]; omega
      have HO7 := Lib.hid (show OwnV 38 w.heap.size X g cp (ss (prodR b M n)) by rw [← stP_all, ← hie]; exact hO.out)
      clear hie
      go_wp2_with fail
      go_ret
      exact ⟨_, _, rfl, HO7.out, hE⟩
end Go.Proofs.YthmhmkkcjlgbjaaGreatDoor
/- schismaref07: EqualRows, Equal -/
namespace Go.Proofs.YthmhmkkcjlgbjaaGreatDoor
open Go.RowKit Go.Sort
theorem list_getD_ext {a b : List Int} (hl : a.length = b.length) (h : ∀ j, j < a.length → a.getD j 0 = b.getD j 0) : a = b := by
  apply List.ext_getElem hl
  intro i h1 h2
  have := h i h1
  rwa [getD_get h1, getD_get h2] at this
theorem mx_getD_ext {a b : Mx} (hl : a.length = b.length) (h : ∀ j, j < a.length → a.getD j [] = b.getD j []) : a = b := by
  apply List.ext_getElem hl
  intro i h1 h2
  have := h i h1
  rwa [getD_get h1, getD_get h2] at this
set_option maxRecDepth 100000 in
set_option maxHeartbeats 1000000 in
theorem EqualRows_any {w : World} {va vb : Value} {a b : List Int} (hA : RowR w va a) (hB : RowR w vb b) (hbig : a.length ≤ 1000000) :
    Calls Tryz.prog 26 #[va, vb] w fun e w' => e = .returned (.bool (decide (a = b))) ∧ Ext w w' := by
  obtain ⟨sa, ga, oa, ca, rfl, hca, hSa⟩ := hA
  obtain ⟨sb, gb, ob, cb, rfl, hcb, hSb⟩ := hB
  by_cases hl : a.length = b.length
  · obtain ⟨n, hn⟩ : ∃ n, n = a.length := ⟨_, rfl⟩
    rw [← hl]
    rw [← hn] at hbig ⊢
    have HA := Lib.hid hSa
    have HB := Lib.hid hSb
    have Hn := Lib.hid hn
    have Hm := Lib.hid (hn.trans hl)
    clear hSa hSb hl hn hca hcb
    go_enter Tryz.func26, Tryz.ntmps26
    go_wp2_with fail
    go_loopw [5] (fun idx wr => ∃ i : Nat, i ≤ n ∧ idx = .int .i64 i ∧ Hid (∀ j, j < i → a.getD j 0 = b.getD j 0) ∧ Ext w wr) (fun idx _ => n - (intOf idx).toNat)
    case atStart => exact ⟨0, by omega, by go_num, Lib.hid (fun j h => by omega), Ext.refl _⟩
    case round =>
      obtain ⟨i, hi, rfl, Hz, hE⟩ := hrel
      generalize wr = X at *
      by_cases hlt : i < n
      · have hii : (i : Int) < (n : Int) := by omega
        have c1 := (HA.out.ext hE).cell i (.int .i64 (a[i]'(by rw [← Hn.out]; exact hlt))) (is_get (by rw [← Hn.out]; exact hlt))
        have c2 := (HB.out.ext hE).cell i (.int .i64 (b[i]'(by rw [← Hm.out]; exact hlt))) (is_get (by rw [← Hm.out]; exact hlt))
        obtain rfl := HA.out.addr (by rw [is_length, ← Hn.out]; omega)
        obtain rfl := HB.out.addr (by rw [is_length, ← Hm.out]; omega)
        obtain ⟨x, hx⟩ : ∃ x, x = a[i]'(by rw [← Hn.out]; exact hlt) := ⟨_, rfl⟩
        obtain ⟨y, hy⟩ : ∃ y, y = b[i]'(by rw [← Hm.out]; exact hlt) := ⟨_, rfl⟩
        rw [← hx] at c1
        rw [← hy] at c2
        have Hx := Lib.hid (show a.getD i 0 = x by rw [hx, getD_get (by rw [← Hn.out]; exact hlt)])
        have Hy := Lib.hid (show b.getD i 0 = y by rw [hy, getD_get (by rw [← Hm.out]; exact hlt)])
        clear hx hy
        by_cases hxy : x = y
        · subst hxy
          go_wp2_with fail
          go_quiet (fail)
          go_wp2_with fail
          go_roundw
          case rel => exact ⟨i + 1, by omega, by go_num, Lib.hid (fun j hj => by
            by_cases e : j = i
            · subst e; rw [Hx.out, Hy.out]
            · exact Hz.out j (by omega)), hE.drewN _⟩
          case measure => simp [intOf] <;> omega
        · have hb1 : (x == y) = false := beq_eq_false_iff_ne.2 hxy
          have hb2 : (x != y) = true := by simp [bne, hb1]
          have Hne := Lib.hid (show decide (a = b) = false from decide_eq_false (fun e => hxy (by rw [← Hx.out, ← Hy.out, e])))
          go_wp2_with fail
          go_quiet (fail)
          go_wp2_with fail
          go_ret
          exact ⟨by rw [Hne.out]; rfl, hE.drewN _⟩
      · have Heq := Lib.hid (show decide (a = b) = true from decide_eq_true (list_getD_ext (by rw [← Hn.out, ← Hm.out]) (fun j hj => Hz.out j (by rw [← Hn.out] at hj; omega))))
        go_wp2_with fail
        go_ret
        exact ⟨by rw [Heq.out]; rfl, hE⟩
  · have hne : decide (a = b) = false := decide_eq_false (fun e => hl (by rw [e]))
    rw [hne]
    have h1 : ¬ ((a.length : Int) = (b.length : Int)) := by omega
    have h2 : ((a.length : Int) == (b.length : Int)) = false := beq_eq_false_iff_ne.2 h1
    have h3 : ((a.length : Int) != (b.length : Int)) = true := by simp [bne, h2]
    clear hSa hSb hca hcb hne
    generalize a.length = n at *
    generalize b.length = m at *
    go_enter Tryz.func26, Tryz.ntmps26
    go_wp2_with fail
    go_ret
    exact ⟨rfl, Ext.refl _⟩
set_option maxRecDepth 100000 in
set_option maxHeartbeats 1000000 in
theorem Equal_any {w : World} {va vb : Value} {A B : Mx} (hA : MatR w va A) (hB : MatR w vb B) (hbig : A.length ≤ 1000000) (hbr : ∀ r ∈ A, r.length ≤ 1000000) :
    Calls Tryz.prog 17 #[va, vb] w fun e w' => e = .returned (.bool (decide (A = B))) ∧ Ext w w' := by
  obtain ⟨sa, ga, oa, ca, va', rfl, hca, hvA, hSa, hrA⟩ := hA
  obtain ⟨sb, gb, ob, cb, vb', rfl, hcb, hvB, hSb, hrB⟩ := hB
  by_cases hl : A.length = B.length
  · obtain ⟨n, hn⟩ : ∃ n, n = A.length := ⟨_, rfl⟩
    rw [← hl]
    rw [← hn] at hbig ⊢
    have HA := Lib.hid hSa
    have HB := Lib.hid hSb
    have HvA := Lib.hid hvA
    have HvB := Lib.hid hvB
    have HrA := Lib.hid hrA
    have HrB := Lib.hid hrB
    have Hn := Lib.hid hn
    have Hm := Lib.hid (hn.trans hl)
    clear hSa hSb hl hn hca hcb hvA hvB hrA hrB
    go_enter Tryz.func17, Tryz.ntmps17
    go_wp2_with fail
    go_loopw [5] (fun idx wr => ∃ i : Nat, i ≤ n ∧ idx = .int .i64 i ∧ Hid (∀ j, j < i → A.getD j [] = B.getD j []) ∧ Ext w wr) (fun idx _ => n - (intOf idx).toNat)
    case atStart => exact ⟨0, by omega, by go_num, Lib.hid (fun j h => by omega), Ext.refl _⟩
    case round =>
      obtain ⟨i, hi, rfl, Hz, hE⟩ := hrel
      generalize wr = X at *
      by_cases hlt : i < n
      · have hii : (i : Int) < (n : Int) := by omega
        have hiA : i < A.length := by rw [← Hn.out]; exact hlt
        have hiB : i < B.length := by rw [← Hm.out]; exact hlt
        obtain ⟨sx, bx, ox, cx, hrx, hcx, hSx⟩ := MatR.row HA.out HvA.out HrA.out hiA
        obtain ⟨sy, by', oy, cy, hry, hcy, hSy⟩ := MatR.row HB.out HvB.out HrB.out hiB
        obtain rfl := HA.out.addr (by rw [HvA.out]; omega)
        obtain rfl := HB.out.addr (by rw [HvB.out]; omega)
        have k1 := cell_regrown (hE.cell hrx)
        have k2 := cell_regrown (hE.cell hry)
        have hx1 : RowR X (.slice sx A[i].length cx) A[i] := ⟨sx, bx, ox, cx, rfl, hcx, hSx.ext hE⟩
        have hy1 : RowR X (.slice sy B[i].length cy) B[i] := ⟨sy, by', oy, cy, rfl, hcy, hSy.ext hE⟩
        obtain ⟨lx, hlx⟩ : ∃ l, l = A[i].length := ⟨_, rfl⟩
        obtain ⟨ly, hly⟩ : ∃ l, l = B[i].length := ⟨_, rfl⟩
        rw [← hlx] at k1 hx1
        rw [← hly] at k2 hy1
        clear hlx hly
        have hEQ := Lib.hid (fun V (hV : Ext X V) => EqualRows_any (w := V) (hx1.ext hV) (hy1.ext hV) (hbr _ (List.getElem_mem hiA)))
        have HxA := Lib.hid (show A.getD i [] = A[i] from getD_get hiA [])
        have HxB := Lib.hid (show B.getD i [] = B[i] from getD_get hiB [])
        obtain ⟨q, hq⟩ : ∃ q, q = decide (A[i] = B[i]) := ⟨_, rfl⟩
        rw [← hq] at hEQ
        have bE := Lib.hid (quietC (w := X) (fun V hV => hEQ.out V hV))
        have Hq := Lib.hid hq
        clear hrx hry hcx hcy hSx hSy hq hx1 hy1 hEQ
        cases q
        · have Hne := Lib.hid (show decide (A = B) = false from decide_eq_false (fun e => by
            have := Hq.out.symm
            rw [decide_eq_false_iff_not] at this
            exact this (by rw [← HxA.out, ← HxB.out, e])))
          clear Hq HxA HxB
          go_wp2_with fail
          refine wp_region_quiet_below (by kernel_rfl) (by kernel_rfl) ?_
          repeat (quiet_step (exact bE.out _ _))
          refine wpQuiet_nil ?_
          intro _ hw'
          obtain ⟨⟨dq, osq⟩, hw''⟩ := hw'
          subst hw''
          have hE2 := hE.trans (ext_regrown X dq osq)
          clear k1 k2 bE
          generalize hW6 : grow (redrawn _ _) _ = W6 at *
          clear hW6
          go_wp2_with fail
          go_ret
          exact ⟨by rw [Hne.out]; rfl, hE2⟩
        · have Hok := Lib.hid (show A.getD i [] = B.getD i [] by rw [HxA.out, HxB.out]; exact of_decide_eq_true Hq.out.symm)
          clear Hq HxA HxB
          go_wp2_with fail
          refine wp_region_quiet_below (by kernel_rfl) (by kernel_rfl) ?_
          repeat (quiet_step (exact bE.out _ _))
          refine wpQuiet_nil ?_
          intro _ hw'
          obtain ⟨⟨dq, osq⟩, hw''⟩ := hw'
          subst hw''
          have hE2 := hE.trans (ext_regrown X dq osq)
          clear k1 k2 bE
          generalize hW6 : grow (redrawn _ _) _ = W6 at *
          clear hW6
          go_wp2_with fail
          go_roundw
          case rel => exact ⟨i + 1, by omega, by go_num, Lib.hid (fun j hj => by
            by_cases e : j = i
            · subst e; exact Hok.out
            · exact Hz.out j (by omega)), hE2⟩
          case measure => simp [intOf] <;> omega
      · have Heq := Lib.hid (show decide (A = B) = true from decide_eq_true (mx_getD_ext (by rw [← Hn.out, ← Hm.out]) (fun j hj => Hz.out j (by rw [← Hn.out] at hj; omega))))
        go_wp2_with fail
        go_ret
        exact ⟨by rw [Heq.out]; rfl, hE⟩
  · have hne : decide (A = B) = false := decide_eq_false (fun e => hl (by rw [e]))
    rw [hne]
    have h1 : ¬ ((A.length : Int) = (B.length : Int)) := by omega
    have h2 : ((A.length : Int) == (B.length : Int)) = false := beq_eq_false_iff_ne.2 h1
    have h3 : ((A.length : Int) != (B.length : Int)) = true := by simp [bne, h2]
    clear hSa hSb hca hcb hne hrA hrB hvA hvB
    generalize A.length = n at *
    generalize B.length = m at *
    go_enter Tryz.func17, Tryz.ntmps17
    go_wp2_with fail
    go_ret
    exact ⟨rfl, Ext.refl _⟩
end Go.Proofs.YthmhmkkcjlgbjaaGreatDoor
/- table.Equal, row.Equal -/
namespace Go.Proofs.YthmhmkkcjlgbjaaGreatDoor
open Go.RowKit Go.Sort
set_option maxRecDepth 100000 in
set_option maxHeartbeats 1000000 in
theorem SlEq_any {w : World} {va vb : Value} {a b : List Int} (hA : RowR w va a) (hB : RowR w vb b) (hbig : a.length ≤ 1000000) :
    Calls Tryz.prog 120 #[va, vb] w fun e w' => e = .returned (.bool (decide (a = b))) ∧ Ext w w' := by
  obtain ⟨sa, ga, oa, ca, rfl, hca, hSa⟩ := hA
  obtain ⟨sb, gb, ob, cb, rfl, hcb, hSb⟩ := hB
  by_cases hl : a.length = b.length
  · obtain ⟨n, hn⟩ : ∃ n, n = a.length := ⟨_, rfl⟩
    rw [← hl]
    rw [← hn] at hbig ⊢
    have HA := Lib.hid hSa
    have HB := Lib.hid hSb
    have Hn := Lib.hid hn
    have Hm := Lib.hid (hn.trans hl)
    clear hSa hSb hl hn hca hcb
    go_enter Tryz.func120, Tryz.ntmps120
    go_wp2_with fail
    go_loopw [13] (fun idx wr => ∃ i : Nat, i ≤ n ∧ idx = .int .i64 i ∧ Hid (∀ j, j < i → a.getD j 0 = b.getD j 0) ∧ Ext w wr) (fun idx _ => n - (intOf idx).toNat)
    case atStart => exact ⟨0, by omega, by go_num, Lib.hid (fun j h => by omega), Ext.refl _⟩
    case round =>
      obtain ⟨i, hi, rfl, Hz, hE⟩ := hrel
      generalize wr = X at *
      by_cases hlt : i < n
      · have hii : (i : Int) < (n : Int) := by omega
        have c1 := (HA.out.ext hE).cell i (.int .i64 (a[i]'(by rw [← Hn.out]; exact hlt))) (is_get (by rw [← Hn.out]; exact hlt))
        have c2 := (HB.out.ext hE).cell i (.int .i64 (b[i]'(by rw [← Hm.out]; exact hlt))) (is_get (by rw [← Hm.out]; exact hlt))
        obtain rfl := HA.out.addr (by rw [is_length, ← Hn.out]; omega)
        obtain rfl := HB.out.addr (by rw [is_length, ← Hm.out]; omega)
        obtain ⟨x, hx⟩ : ∃ x, x = a[i]'(by rw [← Hn.out]; exact hlt) := ⟨_, rfl⟩
        obtain ⟨y, hy⟩ : ∃ y, y = b[i]'(by rw [← Hm.out]; exact hlt) := ⟨_, rfl⟩
        rw [← hx] at c1
        rw [← hy] at c2
        have Hx := Lib.hid (show a.getD i 0 = x by rw [hx, getD_get (by rw [← Hn.out]; exact hlt)])
        have Hy := Lib.hid (show b.getD i 0 = y by rw [hy, getD_get (by rw [← Hm.out]; exact hlt)])
        clear hx hy
        by_cases hxy : x = y
        · subst hxy
          go_wp2_with fail
          go_quiet (fail)
          go_wp2_with fail
          go_roundw
          case rel => exact ⟨i + 1, by omega, by go_num, Lib.hid (fun j hj => by
            by_cases e : j = i
            · subst e; rw [Hx.out, Hy.out]
            · exact Hz.out j (by omega)), hE.drewN _⟩
          case measure => simp [intOf] <;> omega
        · have hb1 : (x == y) = false := beq_eq_false_iff_ne.2 hxy
          have hb2 : (x != y) = true := by simp [bne, hb1]
          have Hne := Lib.hid (show decide (a = b) = false from decide_eq_false (fun e => hxy (by rw [← Hx.out, ← Hy.out, e])))
          go_wp2_with fail
          go_quiet (fail)
          go_wp2_with fail
          go_ret
          exact ⟨by rw [Hne.out]; rfl, hE.drewN _⟩
      · have Heq := Lib.hid (show decide (a = b) = true from decide_eq_true (list_getD_ext (by rw [← Hn.out, ← Hm.out]) (fun j hj => Hz.out j (by rw [← Hn.out] at hj; omega))))
        go_wp2_with fail
        go_ret
        exact ⟨by rw [Heq.out]; rfl, hE⟩
  · have hne : decide (a = b) = false := decide_eq_false (fun e => hl (by rw [e]))
    rw [hne]
    have h1 : ¬ ((a.length : Int) = (b.length : Int)) := by omega
    have h2 : ((a.length : Int) == (b.length : Int)) = false := beq_eq_false_iff_ne.2 h1
    have h3 : ((a.length : Int) != (b.length : Int)) = true := by simp [bne, h2]
    clear hSa hSb hca hcb hne
    generalize a.length = n at *
    generalize b.length = m at *
    go_enter Tryz.func120, Tryz.ntmps120
    go_wp2_with fail
    go_ret
    exact ⟨rfl, Ext.refl _⟩
theorem rowEqual_any {w : World} {va vb : Value} {a b : List Int} (hA : RowR w va a) (hB : RowR w vb b) (hbig : a.length ≤ 1000000) :
    Calls Tryz.prog 76 #[va, vb] w fun e w' => e = .returned (.bool (decide (a = b))) ∧ Ext w w' := by
  have h := Lib.hid (SlEq_any hA hB hbig)
  clear hA hB
  go_enter Tryz.func76, Tryz.ntmps76
  go_wp2_with fail
  refine h.out.mono ?_
  rintro e w1 ⟨rfl, hE⟩
  go_wp2_with fail
  go_ret
  exact ⟨rfl, hE⟩
theorem tblEq1_any {w : World} {va vb : Value} {a b : List Int} (hA : RowR w va a) (hB : RowR w vb b) (hbig : a.length ≤ 1000000) :
    Calls Tryz.prog 119 #[va, vb] w fun e w' => e = .returned (.bool (decide (a = b))) ∧ Ext w w' := by
  have h := Lib.hid (SlEq_any hA hB hbig)
  clear hA hB
  go_enter Tryz.func119, Tryz.ntmps119
  go_wp2_with fail
  refine h.out.mono ?_
  rintro e w1 ⟨rfl, hE⟩
  go_wp2_with fail
  go_ret
  exact ⟨rfl, hE⟩
set_option maxRecDepth 100000 in
set_option maxHeartbeats 1000000 in
theorem EqFunc_any {w : World} {va vb : Value} {A B : Mx} (hA : MatR w va A) (hB : MatR w vb B) (hbig : A.length ≤ 1000000) (hbr : ∀ r ∈ A, r.length ≤ 1000000) :
    Calls Tryz.prog 118 #[va, vb, .func (.func 119) #[] #[]] w fun e w' => e = .returned (.bool (decide (A = B))) ∧ Ext w w' := by
  obtain ⟨sa, ga, oa, ca, va', rfl, hca, hvA, hSa, hrA⟩ := hA
  obtain ⟨sb, gb, ob, cb, vb', rfl, hcb, hvB, hSb, hrB⟩ := hB
  by_cases hl : A.length = B.length
  · obtain ⟨n, hn⟩ : ∃ n, n = A.length := ⟨_, rfl⟩
    rw [← hl]
    rw [← hn] at hbig ⊢
    have HA := Lib.hid hSa
    have HB := Lib.hid hSb
    have HvA := Lib.hid hvA
    have HvB := Lib.hid hvB
    have HrA := Lib.hid hrA
    have HrB := Lib.hid hrB
    have Hn := Lib.hid hn
    have Hm := Lib.hid (hn.trans hl)
    have Hbr := Lib.hid hbr
    clear hSa hSb hl hn hca hcb hvA hvB hrA hrB hbr
    go_enter Tryz.func118, Tryz.ntmps118
    go_wp2_with fail
    go_loopw [17] (fun idx wr => ∃ i : Nat, i ≤ n ∧ idx = .int .i64 i ∧ Hid (∀ j, j < i → A.getD j [] = B.getD j []) ∧ Ext w wr) (fun idx _ => n - (intOf idx).toNat)
    case atStart => exact ⟨0, by omega, by go_num, Lib.hid (fun j h => by omega), Ext.refl _⟩
    case round =>
      obtain ⟨i, hi, rfl, Hz, hE⟩ := hrel
      generalize wr = X at *
      by_cases hlt : i < n
      · have hii : (i : Int) < (n : Int) := by omega
        have hiA : i < A.length := by rw [← Hn.out]; exact hlt
        have hiB : i < B.length := by rw [← Hm.out]; exact hlt
        obtain ⟨sx, bx, ox, cx, hrx, hcx, hSx⟩ := MatR.row HA.out HvA.out HrA.out hiA
        obtain ⟨sy, by', oy, cy, hry, hcy, hSy⟩ := MatR.row HB.out HvB.out HrB.out hiB
        obtain rfl := HA.out.addr (by rw [HvA.out]; omega)
        obtain rfl := HB.out.addr (by rw [HvB.out]; omega)
        have k1 := hE.cell hrx
        have k2 := hE.cell hry
        have hx1 : RowR X (.slice sx A[i].length cx) A[i] := ⟨sx, bx, ox, cx, rfl, hcx, hSx.ext hE⟩
        have hy1 : RowR X (.slice sy B[i].length cy) B[i] := ⟨sy, by', oy, cy, rfl, hcy, hSy.ext hE⟩
        obtain ⟨lx, hlx⟩ : ∃ l, l = A[i].length := ⟨_, rfl⟩
        obtain ⟨ly, hly⟩ : ∃ l, l = B[i].length := ⟨_, rfl⟩
        rw [← hlx] at k1 hx1
        rw [← hly] at k2 hy1
        clear hlx hly
        have hEQ := Lib.hid (tblEq1_any hx1 hy1 (Hbr.out _ (List.getElem_mem hiA)))
        have HxA := Lib.hid (show A.getD i [] = A[i] from getD_get hiA [])
        have HxB := Lib.hid (show B.getD i [] = B[i] from getD_get hiB [])
        obtain ⟨q, hq⟩ : ∃ q, q = decide (A[i] = B[i]) := ⟨_, rfl⟩
        rw [← hq] at hEQ
        have Hq := Lib.hid hq
        clear hrx hry hcx hcy hSx hSy hq hx1 hy1
        cases q
        · have Hne := Lib.hid (show decide (A = B) = false from decide_eq_false (fun e => by
            have := Hq.out.symm
            rw [decide_eq_false_iff_not] at this
            exact this (by rw [← HxA.out, ← HxB.out, e])))
          clear Hq HxA HxB
          go_wp2_with fail
          refine hEQ.out.mono ?_
          rintro e W6 ⟨rfl, hE6⟩
          have hE2 := hE.trans hE6
          clear k1 k2 hEQ
          go_wp2_with fail
          go_ret
          exact ⟨by rw [Hne.out]; rfl, hE2⟩
        · have Hok := Lib.hid (show A.getD i [] = B.getD i [] by rw [HxA.out, HxB.out]; exact of_decide_eq_true Hq.out.symm)
          have Hz2 := Lib.hid (show ∀ j, j < i + 1 → A.getD j [] = B.getD j [] from fun j hj => by
            by_cases e : j = i
            · subst e; exact Hok.out
            · exact Hz.out j (by omega))
          clear Hq HxA HxB
          go_wp2_with fail
          refine hEQ.out.mono ?_
          rintro e W6 ⟨rfl, hE6⟩
          have hE2 := hE.trans hE6
          clear k1 k2 hEQ
          go_wp2_with fail
          go_roundw
          case rel => exact ⟨i + 1, by omega, by go_num, Hz2, hE2⟩
          case measure => simp [intOf] <;> omega
      · have Heq := Lib.hid (show decide (A = B) = true from decide_eq_true (mx_getD_ext (by rw [← Hn.out, ← Hm.out]) (fun j hj => Hz.out j (by rw [← Hn.out] at hj; omega))))
        go_wp2_with fail
        go_ret
        exact ⟨by rw [Heq.out]; rfl, hE⟩
  · have hne : decide (A = B) = false := decide_eq_false (fun e => hl (by rw [e]))
    rw [hne]
    have h1 : ¬ ((A.length : Int) = (B.length : Int)) := by omega
    have h2 : ((A.length : Int) == (B.length : Int)) = false := beq_eq_false_iff_ne.2 h1
    have h3 : ((A.length : Int) != (B.length : Int)) = true := by simp [bne, h2]
    clear hSa hSb hca hcb hne hvA hvB hrA hrB hbr
    generalize A.length = n at *
    generalize B.length = m at *
    go_enter Tryz.func118, Tryz.ntmps118
    go_wp2_with fail
    go_ret
    exact ⟨rfl, Ext.refl _⟩
theorem tblEqual_any {w : World} {va vb : Value} {A B : Mx} (hA : MatR w va A) (hB : MatR w vb B) (hbig : A.length ≤ 1000000) (hbr : ∀ r ∈ A, r.length ≤ 1000000) :
    Calls Tryz.prog 74 #[va, vb] w fun e w' => e = .returned (.bool (decide (A = B))) ∧ Ext w w' := by
  have h := Lib.hid (EqFunc_any hA hB hbig hbr)
  clear hA hB
  go_enter Tryz.func74, Tryz.ntmps74
  go_wp2_with fail
  refine h.out.mono ?_
  rintro e w1 ⟨rfl, hE⟩
  go_wp2_with fail
  go_ret
  exact ⟨rfl, hE⟩
end Go.Proofs.YthmhmkkcjlgbjaaGreatDoor
