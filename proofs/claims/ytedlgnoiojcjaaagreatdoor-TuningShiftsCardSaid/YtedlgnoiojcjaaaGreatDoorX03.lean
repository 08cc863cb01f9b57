/- Part 3, beside the shared parts, of the proof of the claim: contracts and plain laws; no condition. -/
import Derived.Test.YtedlgnoiojcjaaaGreatDoorX02
import Derived.BigQuiet
set_option maxRecDepth 100000
namespace Go.Proofs.YtedlgnoiojcjaaaGreatDoor
open Go.RowKit Go.Sort
theorem list6_getD_ext {a b : List Int} (hl : a.length = b.length) (h : ∀ j, j < a.length → a.getD j 0 = b.getD j 0) : a = b := by
 apply List.ext_getElem hl
 intro i h1 h2
 have := h i h1
 rwa [getD_get h1, getD_get h2] at this
theorem mx_getD_ext {a b : Mx} (hl : a.length = b.length) (h : ∀ j, j < a.length → a.getD j [] = b.getD j []) : a = b := by
 apply List.ext_getElem hl
 intro i h1 h2
 have := h i h1
 rwa [getD_get h1, getD_get h2] at this
set_option maxHeartbeats 1000000 in
theorem eqRows6_any {w : World} {va vb : Value} {a b : List Int} (hA : RowR w va a) (hB : RowR w vb b) (hbig : a.length ≤ 1000000) :
  Calls Tryz.prog 140 #[va, vb] w fun e w' => e = .returned (.bool (decide (a = b))) ∧ Ext w w' := by
 obtain ⟨sa, ga, oa, ca, rfl, hca, hSa⟩ := hA
 obtain ⟨sb, gb, ob, cb, rfl, hcb, hSb⟩ := hB
 by_cases hl : a.length = b.length
 ·obtain ⟨n, hn⟩ : ∃ n, n = a.length := ⟨_, rfl⟩
  rw [← hl]
  rw [← hn] at hbig ⊢
  have HA := Lib.hid hSa
  have HB := Lib.hid hSb
  have Hn := Lib.hid hn
  have Hm := Lib.hid (hn.trans hl)
  clear hSa hSb hl hn hca hcb
  go_enter Tryz.func140, Tryz.ntmps140
  go_wp2_with fail
  go_loopw [5] (fun idx wr => ∃ i : Nat, i ≤ n ∧ idx = .int .i64 i ∧ Hid (∀ j, j < i → a.getD j 0 = b.getD j 0) ∧ Ext w wr) (fun idx _ => n - (intOf idx).toNat)
  case atStart => exact ⟨0, by omega, by go_num, Lib.hid (fun j h => by omega), Ext.refl _⟩
  case round =>
   obtain ⟨i, hi, rfl, Hz, hE⟩ := hrel
   generalize wr = X at *
   by_cases hlt : i < n
   ·have hii : (i : Int) < (n : Int) := by omega
    have c1 := (HA.out.ext hE).cell i (.int .i64 (a[i]'(by rw [← Hn.out]; exact hlt))) (is_get (by rw [← Hn.out]; exact hlt))
    have c2 := (HB.out.ext hE).cell i (.int .i64 (b[i]'(by rw [← Hm.out]; exact hlt))) (is_get (by rw [← Hm.out]; exact hlt))
    obtain rfl := HA.out.addr (by rw [is_length, ← Hn.out]; omega)
    obtain rfl := HB.out.addr (by rw [is_length, ← Hm.out]; omega)
    obtain ⟨x, hx⟩ : ∃ x, x = a[i]'(by rw [← Hn.out]; exact hlt) := ⟨_, rfl⟩
    obtain ⟨y, hy⟩ : ∃ y, y = b[i]'(by rw [← Hm.out]; exact hlt) := ⟨_, rfl⟩
    rw [← hx] at c1
    rw [← hy] at c2
    have Hx := Lib.hid (show a.getD i 0 = x by rw [hx, getD_get (by rw [← Hn.out]; exact hlt)])
    have Hy := Lib.hid (show b.getD i 0 = y by rw [hy, getD_get (by rw [← Hm.out]; exact hlt)])
    clear hx hy
    by_cases hxy : x = y
    ·subst hxy
     go_wp2_with fail
     go_quiet (fail)
     go_wp2_with fail
     go_roundw
     case rel => exact ⟨i + 1, by omega, by go_num, Lib.hid (fun j hj => by
      by_cases e : j = i
      ·subst e; rw [Hx.out, Hy.out]
      ·exact Hz.out j (by omega)), hE.drewN _⟩
     case measure => simp [intOf] <;> omega
    ·have hb1 : (x == y) = false := beq_eq_false_iff_ne.2 hxy
     have hb2 : (x != y) = true := by simp [bne, hb1]
     have Hne := Lib.hid (show decide (a = b) = false from decide_eq_false (fun e => hxy (by rw [← Hx.out, ← Hy.out, e])))
     go_wp2_with fail
     go_quiet (fail)
     go_wp2_with fail
     go_ret
     exact ⟨by rw [Hne.out]; rfl, hE.drewN _⟩
   ·have Heq := Lib.hid (show decide (a = b) = true from decide_eq_true (list6_getD_ext (by rw [← Hn.out, ← Hm.out]) (fun j hj => Hz.out j (by rw [← Hn.out] at hj; omega))))
    go_wp2_with fail
    go_ret
    exact ⟨by rw [Heq.out]; rfl, hE⟩
 ·have hne : decide (a = b) = false := decide_eq_false (fun e => hl (by rw [e]))
  rw [hne]
  have h1 : ¬ ((a.length : Int) = (b.length : Int)) := by omega
  have h2 : ((a.length : Int) == (b.length : Int)) = false := beq_eq_false_iff_ne.2 h1
  have h3 : ((a.length : Int) != (b.length : Int)) = true := by simp [bne, h2]
  clear hSa hSb hca hcb hne
  generalize a.length = n at *
  generalize b.length = m at *
  go_enter Tryz.func140, Tryz.ntmps140
  go_wp2_with fail
  go_ret
  exact ⟨rfl, Ext.refl _⟩
set_option maxHeartbeats 1000000 in
theorem equal6_any {w : World} {va vb : Value} {A B : Mx} (hA : MatR w va A) (hB : MatR w vb B) (hbig : A.length ≤ 1000000) (hbr : ∀ r ∈ A, r.length ≤ 1000000) :
  Calls Tryz.prog 141 #[va, vb] w fun e w' => e = .returned (.bool (decide (A = B))) ∧ Ext w w' := by
 obtain ⟨sa, ga, oa, ca, va', rfl, hca, hvA, hSa, hrA⟩ := hA
 obtain ⟨sb, gb, ob, cb, vb', rfl, hcb, hvB, hSb, hrB⟩ := hB
 by_cases hl : A.length = B.length
 ·obtain ⟨n, hn⟩ : ∃ n, n = A.length := ⟨_, rfl⟩
  rw [← hl]
  rw [← hn] at hbig ⊢
  have HA := Lib.hid hSa
  have HB := Lib.hid hSb
  have HvA := Lib.hid hvA
  have HvB := Lib.hid hvB
  have HrA := Lib.hid hrA
  have HrB := Lib.hid hrB
  have Hn := Lib.hid hn
  have Hm := Lib.hid (hn.trans hl)
  clear hSa hSb hl hn hca hcb hvA hvB hrA hrB
  go_enter Tryz.func141, Tryz.ntmps141
  go_wp2_with fail
  go_loopw [5] (fun idx wr => ∃ i : Nat, i ≤ n ∧ idx = .int .i64 i ∧ Hid (∀ j, j < i → A.getD j [] = B.getD j []) ∧ Ext w wr) (fun idx _ => n - (intOf idx).toNat)
  case atStart => exact ⟨0, by omega, by go_num, Lib.hid (fun j h => by omega), Ext.refl _⟩
  case round =>
   obtain ⟨i, hi, rfl, Hz, hE⟩ := hrel
   generalize wr = X at *
   by_cases hlt : i < n
   ·have hii : (i : Int) < (n : Int) := by omega
    have hiA : i < A.length := by rw [← Hn.out]; exact hlt
    have hiB : i < B.length := by rw [← Hm.out]; exact hlt
    obtain ⟨sx, bx, ox, cx, hrx, hcx, hSx⟩ := MatR.row HA.out HvA.out HrA.out hiA
    obtain ⟨sy, by', oy, cy, hry, hcy, hSy⟩ := MatR.row HB.out HvB.out HrB.out hiB
    obtain rfl := HA.out.addr (by rw [HvA.out]; omega)
    obtain rfl := HB.out.addr (by rw [HvB.out]; omega)
    have k1 := cell_regrown (hE.cell hrx)
    have k2 := cell_regrown (hE.cell hry)
    have hx1 : RowR X (.slice sx A[i].length cx) A[i] := ⟨sx, bx, ox, cx, rfl, hcx, hSx.ext hE⟩
    have hy1 : RowR X (.slice sy B[i].length cy) B[i] := ⟨sy, by', oy, cy, rfl, hcy, hSy.ext hE⟩
    obtain ⟨lx, hlx⟩ : ∃ l, l = A[i].length := ⟨_, rfl⟩
    obtain ⟨ly, hly⟩ : ∃ l, l = B[i].length := ⟨_, rfl⟩
    rw [← hlx] at k1 hx1
    rw [← hly] at k2 hy1
    clear hlx hly
    have hEQ := Lib.hid (fun V (hV : Ext X V) => eqRows6_any (w := V) (hx1.ext hV) (hy1.ext hV) (hbr _ (List.getElem_mem hiA)))
    have HxA := Lib.hid (show A.getD i [] = A[i] from getD_get hiA [])
    have HxB := Lib.hid (show B.getD i [] = B[i] from getD_get hiB [])
    obtain ⟨q, hq⟩ : ∃ q, q = decide (A[i] = B[i]) := ⟨_, rfl⟩
    rw [← hq] at hEQ
    have bE := Lib.hid (quietC (w := X) (fun V hV => hEQ.out V hV))
    have Hq := Lib.hid hq
    clear hrx hry hcx hcy hSx hSy hq hx1 hy1 hEQ
    cases q
    ·have Hne := Lib.hid (show decide (A = B) = false from decide_eq_false (fun e => by
      have := Hq.out.symm
      rw [decide_eq_false_iff_not] at this
      exact this (by rw [← HxA.out, ← HxB.out, e])))
     clear Hq HxA HxB
     go_wp2_with fail
     refine wp_region_quiet_below (by kernel_rfl) (by kernel_rfl) ?_
     repeat (quiet_step (exact bE.out _ _))
     refine wpQuiet_nil ?_
     intro _ hw'
     obtain ⟨⟨dq, osq⟩, hw''⟩ := hw'
     subst hw''
     have hE2 := hE.trans (ext_regrown X dq osq)
     clear k1 k2 bE
     generalize hW6 : grow (redrawn _ _) _ = W6 at *
     clear hW6
     go_wp2_with fail
     go_ret
     exact ⟨by rw [Hne.out]; rfl, hE2⟩
    ·have Hok := Lib.hid (show A.getD i [] = B.getD i [] by rw [HxA.out, HxB.out]; exact of_decide_eq_true Hq.out.symm)
     clear Hq HxA HxB
     go_wp2_with fail
     refine wp_region_quiet_below (by kernel_rfl) (by kernel_rfl) ?_
     repeat (quiet_step (exact bE.out _ _))
     refine wpQuiet_nil ?_
     intro _ hw'
     obtain ⟨⟨dq, osq⟩, hw''⟩ := hw'
     subst hw''
     have hE2 := hE.trans (ext_regrown X dq osq)
     clear k1 k2 bE
     generalize hW6 : grow (redrawn _ _) _ = W6 at *
     clear hW6
     go_wp2_with fail
     go_roundw
     case rel => exact ⟨i + 1, by omega, by go_num, Lib.hid (fun j hj => by
      by_cases e : j = i
      ·subst e; exact Hok.out
      ·exact Hz.out j (by omega)), hE2⟩
     case measure => simp [intOf] <;> omega
   ·have Heq := Lib.hid (show decide (A = B) = true from decide_eq_true (mx_getD_ext (by rw [← Hn.out, ← Hm.out]) (fun j hj => Hz.out j (by rw [← Hn.out] at hj; omega))))
    go_wp2_with fail
    go_ret
    exact ⟨by rw [Heq.out]; rfl, hE⟩
 ·have hne : decide (A = B) = false := decide_eq_false (fun e => hl (by rw [e]))
  rw [hne]
  have h1 : ¬ ((A.length : Int) = (B.length : Int)) := by omega
  have h2 : ((A.length : Int) == (B.length : Int)) = false := beq_eq_false_iff_ne.2 h1
  have h3 : ((A.length : Int) != (B.length : Int)) = true := by simp [bne, h2]
  clear hSa hSb hca hcb hne hrA hrB hvA hvB
  generalize A.length = n at *
  generalize B.length = m at *
  go_enter Tryz.func141, Tryz.ntmps141
  go_wp2_with fail
  go_ret
  exact ⟨rfl, Ext.refl _⟩
set_option maxHeartbeats 4000000 in
theorem eqQ_any {w : World} {va vb : Value} {la lb : List Rat} (ha : SzR w va la) (hb : SzR w vb lb) (hl : la.length ≤ 1000000) :
  Calls Tryz.prog 68 #[va, vb] w fun e w' => e = .returned (.bool (decide (la = lb))) ∧ Ext w w' := by
 obtain ⟨sa, ga, oa, ca, rfl, hca, haa, hra⟩ := ha
 obtain ⟨sb, gb, ob, cb, rfl, hcb, hbb, hrb⟩ := hb
 have Haa := Lib.hid haa
 have Hbb := Lib.hid hbb
 have Hra := Lib.hid hra
 have Hrb := Lib.hid hrb
 have Hno := Lib.hid (fun (h : la ≠ lb) => decide_eq_false h)
 have Hyes := Lib.hid (fun (hl : la.length = lb.length) (h : ∀ i (h : i < la.length) (h' : i < lb.length), la[i] = lb[i]) => decide_eq_true (show la = lb from List.ext_getElem hl h))
 obtain ⟨n, hn⟩ : ∃ n, n = la.length := ⟨_, rfl⟩
 obtain ⟨m, hm⟩ : ∃ m, m = lb.length := ⟨_, rfl⟩
 have Hn := Lib.hid hn
 have Hm := Lib.hid hm
 rw [← hn] at hl ⊢
 rw [← hm]
 generalize decide (la = lb) = q at *
 clear haa hbb hra hrb hn hm hca hcb
 by_cases hnm : n = m
 ·subst hnm
  go_enter Tryz.func68, Tryz.ntmps68
  go_wp2_with fail
  go_loopw [13] (fun iv wr => ∃ i : Nat, i ≤ n ∧ iv = .int .i64 i ∧ Hid (∀ t (h : t < la.length) (h' : t < lb.length), t < i → la[t] = lb[t]) ∧ Ext w wr) (fun iv _ => n - (intOf iv).toNat)
  case atStart => exact ⟨0, by omega, by go_num, Lib.hid (fun t _ _ h => by omega), Ext.refl _⟩
  case round =>
   obtain ⟨i, hi, rfl, HA, hE⟩ := hrel
   generalize wr = X at *
   by_cases hlt : i < n
   ·have hii : (i : Int) < (n : Int) := by omega
    have hia : i < la.length := by rw [← Hn.out]; exact hlt
    have hib : i < lb.length := by rw [← Hm.out]; exact hlt
    obtain rfl := Haa.out (by omega)
    obtain rfl := Hbb.out (by omega)
    obtain ⟨a0, a1⟩ := Hra.out i hia
    obtain ⟨b0, b1⟩ := Hrb.out i hib
    replace a0 := hE.cell a0
    replace a1 := hE.cell a1
    replace b0 := hE.cell b0
    replace b1 := hE.cell b1
    have Hq := Lib.hid (fun (h : la[i] ≠ lb[i]) => Hno.out (fun h2 => h (by simp only [h2])))
    have HA' := Lib.hid (fun (h : la[i] = lb[i]) t (ht : t < la.length) (ht' : t < lb.length) (hti : t < i + 1) => show la[t] = lb[t] by
     by_cases e : t = i
     ·subst e; exact h
     ·exact HA.out t ht ht' (by omega))
    obtain ⟨x, hx⟩ : ∃ x, x = la[i] := ⟨_, rfl⟩
    obtain ⟨y, hy⟩ : ∃ y, y = lb[i] := ⟨_, rfl⟩
    rw [← hx] at a0 a1 Hq HA'
    rw [← hy] at b0 b1 Hq HA'
    clear hx hy HA hlt hia hib
    have hqd : ∀ u v : Int, (Lib.itoa u == Lib.itoa v) = decide (u = v) := fun u v => by
     by_cases h : u = v
     ·subst h; simp
     ·rw [decide_eq_false h, beq_eq_false_iff_ne]; exact fun hc => h (itoa_inj hc)
    have k1 := hqd x.num y.num
    have k2 := hqd x.den y.den
    by_cases hxy : x = y
    ·subst hxy
     have HA := Lib.hid (HA'.out rfl)
     clear HA' Hq k1 k2 hqd
     go_wp2_with fail
     go_quiet (fail)
     have hE := hE.drewN nq
     go_wp2_with fail
     go_roundw
     case rel => exact ⟨i + 1, by omega, by go_num, HA, hE⟩
     case measure => simp [intOf] <;> omega
    ·have Hq0 := Lib.hid (Hq.out hxy)
     have hd : x.num ≠ y.num ∨ (x.num = y.num ∧ (x.den : Int) ≠ (y.den : Int)) := by
      by_cases h1 : x.num = y.num
      ·exact .inr ⟨h1, fun h2 => hxy (Rat.ext h1 (by omega))⟩
      ·exact .inl h1
     clear HA' Hq hxy hqd
     obtain ⟨la', hla⟩ : ∃ l, l = Lib.itoa x.num := ⟨_, rfl⟩
     obtain ⟨lb', hlb⟩ : ∃ l, l = Lib.itoa y.num := ⟨_, rfl⟩
     obtain ⟨da', hda⟩ : ∃ l, l = Lib.itoa x.den := ⟨_, rfl⟩
     obtain ⟨db', hdb⟩ : ∃ l, l = Lib.itoa y.den := ⟨_, rfl⟩
     unfold I S at a0 a1 b0 b1
     rw [← hla, ← hlb] at k1
     rw [← hda, ← hdb] at k2
     rw [← hla] at a0
     rw [← hda] at a1
     rw [← hlb] at b0
     rw [← hdb] at b1
     rcases hd with hd | ⟨hd, hd2⟩
     ·rw [decide_eq_false hd] at k1
      have k3 : (la' != lb') = true := by simp [bne, k1]
      clear hd k2 hla hlb hda hdb
      go_wp2_with fail
      go_quiet (fail)
      have hE := hE.drewN nq
      go_wp2_with fail
      go_ret
      exact ⟨ret_val (congrArg Value.bool Hq0.out.symm), hE⟩
     ·rw [decide_eq_false hd2] at k2
      have k3 : (da' != db') = true := by simp [bne, k2]
      rw [decide_eq_true hd] at k1
      obtain rfl : la' = lb' := by simpa using k1
      clear hd k1 hd2 hla hlb hda hdb
      go_wp2_with fail
      go_quiet (fail)
      have hE := hE.drewN nq
      go_wp2_with fail
      go_ret
      exact ⟨ret_val (congrArg Value.bool Hq0.out.symm), hE⟩
   ·obtain rfl : i = n := by omega
    have hii : ¬ (i : Int) < (i : Int) := by omega
    have Hq := Lib.hid (Hyes.out (by rw [← Hn.out, ← Hm.out]) (fun t h h' => HA.out t h h' (by rw [Hn.out]; exact h)))
    clear hlt HA
    go_wp2_with fail
    go_ret
    exact ⟨ret_val (congrArg Value.bool Hq.out.symm), hE⟩
 ·have h1 : ¬ ((n : Int) = (m : Int)) := by omega
  have h2 : ((n : Int) == (m : Int)) = false := beq_eq_false_iff_ne.2 h1
  have h3 : ((n : Int) != (m : Int)) = true := by simp [bne, h2]
  have Hq := Lib.hid (Hno.out (fun h => hnm (by rw [Hn.out, Hm.out, h])))
  clear hnm
  go_enter Tryz.func68, Tryz.ntmps68
  go_wp2_with fail
  go_ret
  exact ⟨ret_val (congrArg Value.bool Hq.out.symm), Ext.refl _⟩
set_option maxHeartbeats 4000000 in
theorem Same24_any {w : World} {va vb : Value} {la lb : List Rat} (ha : SzR w va la) (hb : SzR w vb lb) (hl : la.length ≤ 1000000) :
  Calls Tryz.prog 32 #[va, vb] w fun e w' => e = .returned (.bool (decide (la = lb))) ∧ Ext w w' := by
 obtain ⟨sa, ga, oa, ca, rfl, hca, haa, hra⟩ := ha
 obtain ⟨sb, gb, ob, cb, rfl, hcb, hbb, hrb⟩ := hb
 have Haa := Lib.hid haa
 have Hbb := Lib.hid hbb
 have Hra := Lib.hid hra
 have Hrb := Lib.hid hrb
 have Hno := Lib.hid (fun (h : la ≠ lb) => decide_eq_false h)
 have Hyes := Lib.hid (fun (hl : la.length = lb.length) (h : ∀ i (h : i < la.length) (h' : i < lb.length), la[i] = lb[i]) => decide_eq_true (show la = lb from List.ext_getElem hl h))
 obtain ⟨n, hn⟩ : ∃ n, n = la.length := ⟨_, rfl⟩
 obtain ⟨m, hm⟩ : ∃ m, m = lb.length := ⟨_, rfl⟩
 have Hn := Lib.hid hn
 have Hm := Lib.hid hm
 rw [← hn] at hl ⊢
 rw [← hm]
 generalize decide (la = lb) = q at *
 clear haa hbb hra hrb hn hm hca hcb
 by_cases hnm : n = m
 ·subst hnm
  go_enter Tryz.func32, Tryz.ntmps32
  go_wp2_with fail
  go_loopw [5] (fun iv wr => ∃ i : Nat, i ≤ n ∧ iv = .int .i64 i ∧ Hid (∀ t (h : t < la.length) (h' : t < lb.length), t < i → la[t] = lb[t]) ∧ Ext w wr) (fun iv _ => n - (intOf iv).toNat)
  case atStart => exact ⟨0, by omega, by go_num, Lib.hid (fun t _ _ h => by omega), Ext.refl _⟩
  case round =>
   obtain ⟨i, hi, rfl, HA, hE⟩ := hrel
   generalize wr = X at *
   by_cases hlt : i < n
   ·have hii : (i : Int) < (n : Int) := by omega
    have hia : i < la.length := by rw [← Hn.out]; exact hlt
    have hib : i < lb.length := by rw [← Hm.out]; exact hlt
    obtain rfl := Haa.out (by omega)
    obtain rfl := Hbb.out (by omega)
    obtain ⟨a0, a1⟩ := Hra.out i hia
    obtain ⟨b0, b1⟩ := Hrb.out i hib
    replace a0 := hE.cell a0
    replace a1 := hE.cell a1
    replace b0 := hE.cell b0
    replace b1 := hE.cell b1
    have Hq := Lib.hid (fun (h : la[i] ≠ lb[i]) => Hno.out (fun h2 => h (by simp only [h2])))
    have HA' := Lib.hid (fun (h : la[i] = lb[i]) t (ht : t < la.length) (ht' : t < lb.length) (hti : t < i + 1) => show la[t] = lb[t] by
     by_cases e : t = i
     ·subst e; exact h
     ·exact HA.out t ht ht' (by omega))
    obtain ⟨x, hx⟩ : ∃ x, x = la[i] := ⟨_, rfl⟩
    obtain ⟨y, hy⟩ : ∃ y, y = lb[i] := ⟨_, rfl⟩
    rw [← hx] at a0 a1 Hq HA'
    rw [← hy] at b0 b1 Hq HA'
    clear hx hy HA hlt hia hib
    have hqd : ∀ u v : Int, (Lib.itoa u == Lib.itoa v) = decide (u = v) := fun u v => by
     by_cases h : u = v
     ·subst h; simp
     ·rw [decide_eq_false h, beq_eq_false_iff_ne]; exact fun hc => h (itoa_inj hc)
    have k1 := hqd x.num y.num
    have k2 := hqd x.den y.den
    by_cases hxy : x = y
    ·subst hxy
     have HA := Lib.hid (HA'.out rfl)
     clear HA' Hq k1 k2 hqd
     go_wp2_with fail
     go_quiet (fail)
     have hE := hE.drewN nq
     go_wp2_with fail
     go_roundw
     case rel => exact ⟨i + 1, by omega, by go_num, HA, hE⟩
     case measure => simp [intOf] <;> omega
    ·have Hq0 := Lib.hid (Hq.out hxy)
     have hd : x.num ≠ y.num ∨ (x.num = y.num ∧ (x.den : Int) ≠ (y.den : Int)) := by
      by_cases h1 : x.num = y.num
      ·exact .inr ⟨h1, fun h2 => hxy (Rat.ext h1 (by omega))⟩
      ·exact .inl h1
     clear HA' Hq hxy hqd
     obtain ⟨la', hla⟩ : ∃ l, l = Lib.itoa x.num := ⟨_, rfl⟩
     obtain ⟨lb', hlb⟩ : ∃ l, l = Lib.itoa y.num := ⟨_, rfl⟩
     obtain ⟨da', hda⟩ : ∃ l, l = Lib.itoa x.den := ⟨_, rfl⟩
     obtain ⟨db', hdb⟩ : ∃ l, l = Lib.itoa y.den := ⟨_, rfl⟩
     unfold I S at a0 a1 b0 b1
     rw [← hla, ← hlb] at k1
     rw [← hda, ← hdb] at k2
     rw [← hla] at a0
     rw [← hda] at a1
     rw [← hlb] at b0
     rw [← hdb] at b1
     rcases hd with hd | ⟨hd, hd2⟩
     ·rw [decide_eq_false hd] at k1
      have k3 : (la' != lb') = true := by simp [bne, k1]
      clear hd k2 hla hlb hda hdb
      go_wp2_with fail
      go_quiet (fail)
      have hE := hE.drewN nq
      go_wp2_with fail
      go_ret
      exact ⟨ret_val (congrArg Value.bool Hq0.out.symm), hE⟩
     ·rw [decide_eq_false hd2] at k2
      have k3 : (da' != db') = true := by simp [bne, k2]
      rw [decide_eq_true hd] at k1
      obtain rfl : la' = lb' := by simpa using k1
      clear hd k1 hd2 hla hlb hda hdb
      go_wp2_with fail
      go_quiet (fail)
      have hE := hE.drewN nq
      go_wp2_with fail
      go_ret
      exact ⟨ret_val (congrArg Value.bool Hq0.out.symm), hE⟩
   ·obtain rfl : i = n := by omega
    have hii : ¬ (i : Int) < (i : Int) := by omega
    have Hq := Lib.hid (Hyes.out (by rw [← Hn.out, ← Hm.out]) (fun t h h' => HA.out t h h' (by rw [Hn.out]; exact h)))
    clear hlt HA
    go_wp2_with fail
    go_ret
    exact ⟨ret_val (congrArg Value.bool Hq.out.symm), hE⟩
 ·have h1 : ¬ ((n : Int) = (m : Int)) := by omega
  have h2 : ((n : Int) == (m : Int)) = false := beq_eq_false_iff_ne.2 h1
  have h3 : ((n : Int) != (m : Int)) = true := by simp [bne, h2]
  have Hq := Lib.hid (Hno.out (fun h => hnm (by rw [Hn.out, Hm.out, h])))
  clear hnm
  go_enter Tryz.func32, Tryz.ntmps32
  go_wp2_with fail
  go_ret
  exact ⟨ret_val (congrArg Value.bool Hq.out.symm), Ext.refl _⟩
set_option maxHeartbeats 1000000 in
theorem eqPr_any {w : World} {va vb : Value} {a b : List Int} (hA : RowR w va a) (hB : RowR w vb b) (hbig : a.length ≤ 1000000) :
  Calls Tryz.prog 132 #[va, vb] w fun e w' => e = .returned (.bool (decide (a = b))) ∧ Ext w w' := by
 obtain ⟨sa, ga, oa, ca, rfl, hca, hSa⟩ := hA
 obtain ⟨sb, gb, ob, cb, rfl, hcb, hSb⟩ := hB
 by_cases hl : a.length = b.length
 ·obtain ⟨n, hn⟩ : ∃ n, n = a.length := ⟨_, rfl⟩
  rw [← hl]
  rw [← hn] at hbig ⊢
  have HA := Lib.hid hSa
  have HB := Lib.hid hSb
  have Hn := Lib.hid hn
  have Hm := Lib.hid (hn.trans hl)
  clear hSa hSb hl hn hca hcb
  go_enter Tryz.func132, Tryz.ntmps132
  go_wp2_with fail
  go_loopw [13] (fun idx wr => ∃ i : Nat, i ≤ n ∧ idx = .int .i64 i ∧ Hid (∀ j, j < i → a.getD j 0 = b.getD j 0) ∧ Ext w wr) (fun idx _ => n - (intOf idx).toNat)
  case atStart => exact ⟨0, by omega, by go_num, Lib.hid (fun j h => by omega), Ext.refl _⟩
  case round =>
   obtain ⟨i, hi, rfl, Hz, hE⟩ := hrel
   generalize wr = X at *
   by_cases hlt : i < n
   ·have hii : (i : Int) < (n : Int) := by omega
    have c1 := (HA.out.ext hE).cell i (.int .i64 (a[i]'(by rw [← Hn.out]; exact hlt))) (is_get (by rw [← Hn.out]; exact hlt))
    have c2 := (HB.out.ext hE).cell i (.int .i64 (b[i]'(by rw [← Hm.out]; exact hlt))) (is_get (by rw [← Hm.out]; exact hlt))
    obtain rfl := HA.out.addr (by rw [is_length, ← Hn.out]; omega)
    obtain rfl := HB.out.addr (by rw [is_length, ← Hm.out]; omega)
    obtain ⟨x, hx⟩ : ∃ x, x = a[i]'(by rw [← Hn.out]; exact hlt) := ⟨_, rfl⟩
    obtain ⟨y, hy⟩ : ∃ y, y = b[i]'(by rw [← Hm.out]; exact hlt) := ⟨_, rfl⟩
    rw [← hx] at c1
    rw [← hy] at c2
    have Hx := Lib.hid (show a.getD i 0 = x by rw [hx, getD_get (by rw [← Hn.out]; exact hlt)])
    have Hy := Lib.hid (show b.getD i 0 = y by rw [hy, getD_get (by rw [← Hm.out]; exact hlt)])
    clear hx hy
    by_cases hxy : x = y
    ·subst hxy
     go_wp2_with fail
     go_quiet (fail)
     go_wp2_with fail
     go_roundw
     case rel => exact ⟨i + 1, by omega, by go_num, Lib.hid (fun j hj => by
      by_cases e : j = i
      ·subst e; rw [Hx.out, Hy.out]
      ·exact Hz.out j (by omega)), hE.drewN _⟩
     case measure => simp [intOf] <;> omega
    ·have hb1 : (x == y) = false := beq_eq_false_iff_ne.2 hxy
     have hb2 : (x != y) = true := by simp [bne, hb1]
     have Hne := Lib.hid (show decide (a = b) = false from decide_eq_false (fun e => hxy (by rw [← Hx.out, ← Hy.out, e])))
     go_wp2_with fail
     go_quiet (fail)
     go_wp2_with fail
     go_ret
     exact ⟨by rw [Hne.out]; rfl, hE.drewN _⟩
   ·have Heq := Lib.hid (show decide (a = b) = true from decide_eq_true (sam_getD_ext (by rw [← Hn.out, ← Hm.out]) (fun j hj => Hz.out j (by rw [← Hn.out] at hj; omega))))
    go_wp2_with fail
    go_ret
    exact ⟨by rw [Heq.out]; rfl, hE⟩
 ·have hne : decide (a = b) = false := decide_eq_false (fun e => hl (by rw [e]))
  rw [hne]
  have h1 : ¬ ((a.length : Int) = (b.length : Int)) := by omega
  have h2 : ((a.length : Int) == (b.length : Int)) = false := beq_eq_false_iff_ne.2 h1
  have h3 : ((a.length : Int) != (b.length : Int)) = true := by simp [bne, h2]
  clear hSa hSb hca hcb hne
  generalize a.length = n at *
  generalize b.length = m at *
  go_enter Tryz.func132, Tryz.ntmps132
  go_wp2_with fail
  go_ret
  exact ⟨rfl, Ext.refl _⟩
set_option maxHeartbeats 4000000 in
theorem tmEqual_any {w : World} {P P' : List Int} {C M C' M' : Mx} {sp sp' : Option Addr} {cp cp' : Nat} {sc sc' : Option Addr} {lc cc lc' cc' : Nat} {sm sm' : Option Addr} {lm cm lm' cm' : Nat} (h : TmV w P C M M sp cp sc lc cc sm lm cm) (h' : TmV w P' C' M' M' sp' cp' sc' lc' cc' sm' lm' cm') : Calls Tryz.prog 77 #[tmS P sp cp sc lc cc sm lm cm, tmS P' sp' cp' sc' lc' cc' sm' lm' cm'] w fun e w' => e = .returned (.bool (decide (P = P' ∧ C = C' ∧ M = M'))) ∧ Ext w w' := by
 have hp4 := h.ok.p4
 have hc4 := h.m4
 obtain ⟨psC, hIC⟩ := h.ok.kC.1
 obtain ⟨psM, hIM⟩ := h.ok.kM.1
 have hlC := isH_len hIC
 have q1 := Lib.hid (fun W (hW : Ext w W) => eqPr_any (h.hP.ext hW) (h'.hP.ext hW) (by omega))
 have q2 := Lib.hid (fun W (hW : Ext w W) => tmpSame_any (h.hC.ext hW) (h'.hC.ext hW) (by omega) (fun r hr => by rw [hIC.rect r hr]; omega))
 have q3 := Lib.hid (fun W (hW : Ext w W) => tmpSame_any (h.hM.ext hW) (h'.hM.ext hW) (by omega) (fun r hr => by rw [hIM.rect r hr]; omega))
 have hX := ((Ext.refl w).alloc (.cells #[.slice sp P.length cp, .slice sc lc cc, .slice sm lm cm] 41)).alloc (.cells #[.slice sp' P'.length cp', .slice sc' lc' cc', .slice sm' lm' cm'] 41)
 have x0 : ((w.alloc (.cells #[.slice sp P.length cp, .slice sc lc cc, .slice sm lm cm] 41)).alloc (.cells #[.slice sp' P'.length cp', .slice sc' lc' cc', .slice sm' lm' cm'] 41)).cell? ⟨w.heap.size, 0, none⟩ = some (.slice sp P.length cp) := by go_simp
 have x1 : ((w.alloc (.cells #[.slice sp P.length cp, .slice sc lc cc, .slice sm lm cm] 41)).alloc (.cells #[.slice sp' P'.length cp', .slice sc' lc' cc', .slice sm' lm' cm'] 41)).cell? ⟨w.heap.size, 1, none⟩ = some (.slice sc lc cc) := by go_simp
 have x2 : ((w.alloc (.cells #[.slice sp P.length cp, .slice sc lc cc, .slice sm lm cm] 41)).alloc (.cells #[.slice sp' P'.length cp', .slice sc' lc' cc', .slice sm' lm' cm'] 41)).cell? ⟨w.heap.size, 2, none⟩ = some (.slice sm lm cm) := by go_simp
 have x3 : ((w.alloc (.cells #[.slice sp P.length cp, .slice sc lc cc, .slice sm lm cm] 41)).alloc (.cells #[.slice sp' P'.length cp', .slice sc' lc' cc', .slice sm' lm' cm'] 41)).cell? ⟨w.heap.size + 1, 0, none⟩ = some (.slice sp' P'.length cp') := by go_simp
 have x4 : ((w.alloc (.cells #[.slice sp P.length cp, .slice sc lc cc, .slice sm lm cm] 41)).alloc (.cells #[.slice sp' P'.length cp', .slice sc' lc' cc', .slice sm' lm' cm'] 41)).cell? ⟨w.heap.size + 1, 1, none⟩ = some (.slice sc' lc' cc') := by go_simp
 have x5 : ((w.alloc (.cells #[.slice sp P.length cp, .slice sc lc cc, .slice sm lm cm] 41)).alloc (.cells #[.slice sp' P'.length cp', .slice sc' lc' cc', .slice sm' lm' cm'] 41)).cell? ⟨w.heap.size + 1, 2, none⟩ = some (.slice sm' lm' cm') := by go_simp
 clear h h' hp4 hc4 hIC hIM hlC
 by_cases h1 : P = P'
 ·by_cases h2 : C = C'
  ·have hd : decide (P = P' ∧ C = C' ∧ M = M') = decide (M = M') := by
    rw [decide_eq_decide]; exact ⟨fun h => h.2.2, fun h => ⟨h1, h2, h⟩⟩
   rw [hd]
   rw [decide_eq_true h1] at q1
   rw [decide_eq_true h2] at q2
   generalize decide (M = M') = z at *
   clear hd h1 h2
   go_enter Tryz.func77, Tryz.ntmps77
   go_wp2_with fail
   refine (q1.out _ hX).mono ?_
   rintro e W1 ⟨rfl, hE1⟩
   have e1 := hX.trans hE1
   replace x1 := hE1.cell x1
   replace x2 := hE1.cell x2
   replace x4 := hE1.cell x4
   replace x5 := hE1.cell x5
   clear x0 x3
   go_wp2_with fail
   refine (q2.out _ e1).mono ?_
   rintro e W2 ⟨rfl, hE2⟩
   have e2 := e1.trans hE2
   replace x2 := hE2.cell x2
   replace x5 := hE2.cell x5
   clear x1 x4
   go_wp2_with fail
   refine (q3.out _ e2).mono ?_
   rintro e W3 ⟨rfl, hE3⟩
   have e3 := e2.trans hE3
   clear x2 x5
   go_wp2_with fail
   go_ret
   exact ⟨rfl, e3⟩
  ·rw [decide_eq_false (fun h => h2 h.2.1)]
   rw [decide_eq_true h1] at q1
   rw [decide_eq_false h2] at q2
   clear h1 h2 q3
   go_enter Tryz.func77, Tryz.ntmps77
   go_wp2_with fail
   refine (q1.out _ hX).mono ?_
   rintro e W1 ⟨rfl, hE1⟩
   have e1 := hX.trans hE1
   replace x1 := hE1.cell x1
   replace x4 := hE1.cell x4
   clear x0 x3
   go_wp2_with fail
   refine (q2.out _ e1).mono ?_
   rintro e W2 ⟨rfl, hE2⟩
   have e2 := e1.trans hE2
   go_wp2_with fail
   go_ret
   exact ⟨rfl, e2⟩
 ·rw [decide_eq_false (fun h => h1 h.1)]
  rw [decide_eq_false h1] at q1
  clear h1 q2 q3
  go_enter Tryz.func77, Tryz.ntmps77
  go_wp2_with fail
  refine (q1.out _ hX).mono ?_
  rintro e W1 ⟨rfl, hE1⟩
  have e1 := hX.trans hE1
  go_wp2_with fail
  go_ret
  exact ⟨rfl, e1⟩
set_option maxHeartbeats 4000000 in
theorem same18_any {w : World} {P P' : List Int} {C M C' M' : Mx} {sp sp' : Option Addr} {cp cp' : Nat} {sc sc' : Option Addr} {lc cc lc' cc' : Nat} {sm sm' : Option Addr} {lm cm lm' cm' : Nat} (h : TmV w P C M M sp cp sc lc cc sm lm cm) (h' : TmV w P' C' M' M' sp' cp' sc' lc' cc' sm' lm' cm') : Calls Tryz.prog 82 #[tmS P sp cp sc lc cc sm lm cm, tmS P' sp' cp' sc' lc' cc' sm' lm' cm'] w fun e w' => e = .returned (.bool (decide (P = P' ∧ C = C' ∧ M = M'))) ∧ Ext w w' := by
 have hp4 := h.ok.p4
 have hc4 := h.m4
 obtain ⟨psC, hIC⟩ := h.ok.kC.1
 obtain ⟨psM, hIM⟩ := h.ok.kM.1
 have hlC := isH_len hIC
 have q1 := Lib.hid (fun W (hW : Ext w W) => eqRows6_any (h.hP.ext hW) (h'.hP.ext hW) (by omega))
 have q2 := Lib.hid (fun W (hW : Ext w W) => equal6_any (h.hC.ext hW) (h'.hC.ext hW) (by omega) (fun r hr => by rw [hIC.rect r hr]; omega))
 have q3 := Lib.hid (fun W (hW : Ext w W) => equal6_any (h.hM.ext hW) (h'.hM.ext hW) (by omega) (fun r hr => by rw [hIM.rect r hr]; omega))
 have hX := ((Ext.refl w).alloc (.cells #[.slice sp P.length cp, .slice sc lc cc, .slice sm lm cm] 41)).alloc (.cells #[.slice sp' P'.length cp', .slice sc' lc' cc', .slice sm' lm' cm'] 41)
 have x0 : ((w.alloc (.cells #[.slice sp P.length cp, .slice sc lc cc, .slice sm lm cm] 41)).alloc (.cells #[.slice sp' P'.length cp', .slice sc' lc' cc', .slice sm' lm' cm'] 41)).cell? ⟨w.heap.size, 0, none⟩ = some (.slice sp P.length cp) := by go_simp
 have x1 : ((w.alloc (.cells #[.slice sp P.length cp, .slice sc lc cc, .slice sm lm cm] 41)).alloc (.cells #[.slice sp' P'.length cp', .slice sc' lc' cc', .slice sm' lm' cm'] 41)).cell? ⟨w.heap.size, 1, none⟩ = some (.slice sc lc cc) := by go_simp
 have x2 : ((w.alloc (.cells #[.slice sp P.length cp, .slice sc lc cc, .slice sm lm cm] 41)).alloc (.cells #[.slice sp' P'.length cp', .slice sc' lc' cc', .slice sm' lm' cm'] 41)).cell? ⟨w.heap.size, 2, none⟩ = some (.slice sm lm cm) := by go_simp
 have x3 : ((w.alloc (.cells #[.slice sp P.length cp, .slice sc lc cc, .slice sm lm cm] 41)).alloc (.cells #[.slice sp' P'.length cp', .slice sc' lc' cc', .slice sm' lm' cm'] 41)).cell? ⟨w.heap.size + 1, 0, none⟩ = some (.slice sp' P'.length cp') := by go_simp
 have x4 : ((w.alloc (.cells #[.slice sp P.length cp, .slice sc lc cc, .slice sm lm cm] 41)).alloc (.cells #[.slice sp' P'.length cp', .slice sc' lc' cc', .slice sm' lm' cm'] 41)).cell? ⟨w.heap.size + 1, 1, none⟩ = some (.slice sc' lc' cc') := by go_simp
 have x5 : ((w.alloc (.cells #[.slice sp P.length cp, .slice sc lc cc, .slice sm lm cm] 41)).alloc (.cells #[.slice sp' P'.length cp', .slice sc' lc' cc', .slice sm' lm' cm'] 41)).cell? ⟨w.heap.size + 1, 2, none⟩ = some (.slice sm' lm' cm') := by go_simp
 clear h h' hp4 hc4 hIC hIM hlC
 by_cases h1 : P = P'
 ·by_cases h2 : C = C'
  ·have hd : decide (P = P' ∧ C = C' ∧ M = M') = decide (M = M') := by
    rw [decide_eq_decide]; exact ⟨fun h => h.2.2, fun h => ⟨h1, h2, h⟩⟩
   rw [hd]
   rw [decide_eq_true h1] at q1
   rw [decide_eq_true h2] at q2
   generalize decide (M = M') = z at *
   clear hd h1 h2
   go_enter Tryz.func82, Tryz.ntmps82
   go_wp2_with fail
   refine (q1.out _ hX).mono ?_
   rintro e W1 ⟨rfl, hE1⟩
   have e1 := hX.trans hE1
   replace x1 := hE1.cell x1
   replace x2 := hE1.cell x2
   replace x4 := hE1.cell x4
   replace x5 := hE1.cell x5
   clear x0 x3
   go_wp2_with fail
   refine (q2.out _ e1).mono ?_
   rintro e W2 ⟨rfl, hE2⟩
   have e2 := e1.trans hE2
   replace x2 := hE2.cell x2
   replace x5 := hE2.cell x5
   clear x1 x4
   go_wp2_with fail
   refine (q3.out _ e2).mono ?_
   rintro e W3 ⟨rfl, hE3⟩
   have e3 := e2.trans hE3
   clear x2 x5
   go_wp2_with fail
   go_ret
   exact ⟨rfl, e3⟩
  ·rw [decide_eq_false (fun h => h2 h.2.1)]
   rw [decide_eq_true h1] at q1
   rw [decide_eq_false h2] at q2
   clear h1 h2 q3
   go_enter Tryz.func82, Tryz.ntmps82
   go_wp2_with fail
   refine (q1.out _ hX).mono ?_
   rintro e W1 ⟨rfl, hE1⟩
   have e1 := hX.trans hE1
   replace x1 := hE1.cell x1
   replace x4 := hE1.cell x4
   clear x0 x3
   go_wp2_with fail
   refine (q2.out _ e1).mono ?_
   rintro e W2 ⟨rfl, hE2⟩
   have e2 := e1.trans hE2
   go_wp2_with fail
   go_ret
   exact ⟨rfl, e2⟩
 ·rw [decide_eq_false (fun h => h1 h.1)]
  rw [decide_eq_false h1] at q1
  clear h1 q2 q3
  go_enter Tryz.func82, Tryz.ntmps82
  go_wp2_with fail
  refine (q1.out _ hX).mono ?_
  rintro e W1 ⟨rfl, hE1⟩
  have e1 := hX.trans hE1
  go_wp2_with fail
  go_ret
  exact ⟨rfl, e1⟩
theorem Same18_any {w : World} {P P' : List Int} {C M C' M' : Mx} {sp sp' : Option Addr} {cp cp' : Nat} {sc sc' : Option Addr} {lc cc lc' cc' : Nat} {sm sm' : Option Addr} {lm cm lm' cm' : Nat} (h : TmV w P C M M sp cp sc lc cc sm lm cm) (h' : TmV w P' C' M' M' sp' cp' sc' lc' cc' sm' lm' cm') : Calls Tryz.prog 31 #[tmS P sp cp sc lc cc sm lm cm, tmS P' sp' cp' sc' lc' cc' sm' lm' cm'] w fun e w' => e = .returned (.bool (decide (P = P' ∧ C = C' ∧ M = M'))) ∧ Ext w w' := by
 have q1 := Lib.hid (fun W (hW : Ext w W) => same18_any (h.ext hW) (h'.ext hW))
 generalize decide (P = P' ∧ C = C' ∧ M = M') = z at *
 have hX := ((Ext.refl w).alloc (.cells #[.slice sp P.length cp, .slice sc lc cc, .slice sm lm cm] 41)).alloc (.cells #[.slice sp' P'.length cp', .slice sc' lc' cc', .slice sm' lm' cm'] 41)
 clear h h'
 go_enter Tryz.func31, Tryz.ntmps31
 go_wp2_with fail
 refine (q1.out _ hX).mono ?_
 rintro e W1 ⟨rfl, hE1⟩
 go_wp2_with fail
 go_ret
 exact ⟨rfl, hX.trans hE1⟩
theorem szEqual_any {w : World} {va vb : Value} {la lb : List Rat} (ha : SzR w va la) (hb : SzR w vb lb) (hl : la.length ≤ 1000000) :
  Calls Tryz.prog 18 #[va, vb] w fun e w' => e = .returned (.bool (decide (la = lb))) ∧ Ext w w' := by
 have h := Lib.hid (eqQ_any ha hb hl)
 generalize decide (la = lb) = z at *
 clear ha hb
 go_enter Tryz.func18, Tryz.ntmps18
 go_wp2_with fail
 refine h.out.mono ?_
 rintro e w1 ⟨rfl, hE⟩
 go_wp2_with fail
 go_ret
 exact ⟨rfl, hE⟩
set_option maxHeartbeats 2000000 in
theorem EqFz_any {w : World} {va vb : Value} {A B : List (List Rat)} (hA : GnR w va A) (hB : GnR w vb B) (hbig : A.length ≤ 1000000) (hbr : ∀ r ∈ A, r.length ≤ 1000000) :
  Calls Tryz.prog 78 #[va, vb, .func (.func 18) #[] #[]] w fun e w' => e = .returned (.bool (decide (A = B))) ∧ Ext w w' := by
 obtain ⟨sa, ga, oa, ca, va', rfl, hca, hvA, hSa, hrA⟩ := hA
 obtain ⟨sb, gb, ob, cb, vb', rfl, hcb, hvB, hSb, hrB⟩ := hB
 have Hno := Lib.hid (fun (h : A ≠ B) => decide_eq_false h)
 have Hyes := Lib.hid (fun (hl : A.length = B.length) (h : ∀ i (h : i < A.length) (h' : i < B.length), A[i] = B[i]) => decide_eq_true (show A = B from List.ext_getElem hl h))
 generalize decide (A = B) = q at *
 obtain ⟨n, hn⟩ : ∃ n, n = A.length := ⟨_, rfl⟩
 obtain ⟨m, hm⟩ : ∃ m, m = B.length := ⟨_, rfl⟩
 have Hn := Lib.hid hn
 have Hm := Lib.hid hm
 rw [← hn] at hbig hca ⊢
 rw [← hm] at hcb ⊢
 have HA := Lib.hid hSa
 have HB := Lib.hid hSb
 have HvA := Lib.hid hvA
 have HvB := Lib.hid hvB
 have HrA := Lib.hid hrA
 have HrB := Lib.hid hrB
 have Hbr := Lib.hid hbr
 clear hSa hSb hn hm hca hcb hvA hvB hrA hrB hbr
 by_cases hnm : n = m
 ·subst hnm
  go_enter Tryz.func78, Tryz.ntmps78
  go_wp2_with fail
  go_loopw [17] (fun idx wr => ∃ i : Nat, i ≤ n ∧ idx = .int .i64 i ∧ Hid (∀ t (h : t < A.length) (h' : t < B.length), t < i → A[t] = B[t]) ∧ Ext w wr) (fun idx _ => n - (intOf idx).toNat)
  case atStart => exact ⟨0, by omega, by go_num, Lib.hid (fun t _ _ h => by omega), Ext.refl _⟩
  case round =>
   obtain ⟨i, hi, rfl, Hz, hE⟩ := hrel
   generalize wr = X at *
   by_cases hlt : i < n
   ·have hii : (i : Int) < (n : Int) := by omega
    have hiA : i < A.length := by rw [← Hn.out]; exact hlt
    have hiB : i < B.length := by rw [← Hm.out]; exact hlt
    have hia : i < va'.length := by rw [HvA.out]; exact hiA
    have hib : i < vb'.length := by rw [HvB.out]; exact hiB
    obtain rfl := HA.out.addr (by omega)
    obtain rfl := HB.out.addr (by omega)
    have k1 := hE.cell (HA.out.cell i _ (List.getElem?_eq_getElem hia))
    have k2 := hE.cell (HB.out.cell i _ (List.getElem?_eq_getElem hib))
    have hx1 := (HrA.out i hiA hia).ext hE
    have hy1 := (HrB.out i hiB hib).ext hE
    have hEQ := Lib.hid (szEqual_any hx1 hy1 (Hbr.out _ (List.getElem_mem hiA)))
    have Hq := Lib.hid (fun (h : A[i] ≠ B[i]) => Hno.out (fun h2 => h (by simp only [h2])))
    have HA' := Lib.hid (fun (h : A[i] = B[i]) t (ht : t < A.length) (ht' : t < B.length) (hti : t < i + 1) => show A[t] = B[t] by
     by_cases e : t = i
     ·subst e; exact h
     ·exact Hz.out t ht ht' (by omega))
    obtain ⟨xa, xb, xo, xc, ex, hz1⟩ := hx1
    obtain ⟨ya, yb, yo, yc, ey, hz2⟩ := hy1
    rw [ex] at k1 hEQ
    rw [ey] at k2 hEQ
    clear hz1 hz2 ex ey
    by_cases hc : A[i] = B[i]
    ·rw [decide_eq_true hc] at hEQ
     have Hz := Lib.hid (HA'.out hc)
     generalize A[i].length = nx at *
     generalize B[i].length = ny at *
     clear HA' Hq hc hia hib
     go_wp2_with fail
     refine hEQ.out.mono ?_
     rintro e W6 ⟨rfl, hE6⟩
     have hE2 := hE.trans hE6
     clear k1 k2 hEQ
     go_wp2_with fail
     go_roundw
     case rel => exact ⟨i + 1, by omega, by go_num, Hz, hE2⟩
     case measure => simp [intOf] <;> omega
    ·rw [decide_eq_false hc] at hEQ
     have Hq0 := Lib.hid (Hq.out hc)
     generalize A[i].length = nx at *
     generalize B[i].length = ny at *
     clear HA' Hq hc hia hib
     go_wp2_with fail
     refine hEQ.out.mono ?_
     rintro e W6 ⟨rfl, hE6⟩
     have hE2 := hE.trans hE6
     clear k1 k2 hEQ
     go_wp2_with fail
     go_ret
     exact ⟨ret_val (congrArg Value.bool Hq0.out.symm), hE2⟩
   ·obtain rfl : i = n := by omega
    have hii : ¬ (i : Int) < (i : Int) := by omega
    have Hq := Lib.hid (Hyes.out (by rw [← Hn.out, ← Hm.out]) (fun t h h' => Hz.out t h h' (by rw [Hn.out]; exact h)))
    clear hlt Hz
    go_wp2_with fail
    go_ret
    exact ⟨ret_val (congrArg Value.bool Hq.out.symm), hE⟩
 ·have h1 : ¬ ((n : Int) = (m : Int)) := by omega
  have h2 : ((n : Int) == (m : Int)) = false := beq_eq_false_iff_ne.2 h1
  have h3 : ((n : Int) != (m : Int)) = true := by simp [bne, h2]
  have Hq := Lib.hid (Hno.out (fun h => hnm (by rw [Hn.out, Hm.out, h])))
  clear hnm
  go_enter Tryz.func78, Tryz.ntmps78
  go_wp2_with fail
  go_ret
  exact ⟨ret_val (congrArg Value.bool Hq.out.symm), Ext.refl _⟩
def bldG (G G' : List (List Rat)) (k : Rat) (n : Nat) : List (List Rat) := (List.range G.length).map fun i => cmbQ [G.getD i [], G'.getD i []] [1 - k, k] n
@[simp] theorem bldG_length (G G' : List (List Rat)) (k : Rat) (n : Nat) : (bldG G G' k n).length = G.length := by simp [bldG]
theorem blankZ_any {w : World} : Calls Tryz.prog 23 #[tuZ] w fun e w' => e = .returned (.bool true) ∧ Ext w w' := by
 have hX := (Ext.refl w).alloc (.cells #[.slice none 0 0, .slice none 0 0, .slice none 0 0, .slice none 0 0] 44)
 go_enter Tryz.func23, Tryz.ntmps23
 go_wp2_with fail
 go_ret
 exact ⟨rfl, hX⟩
end Go.Proofs.YtedlgnoiojcjaaaGreatDoor
