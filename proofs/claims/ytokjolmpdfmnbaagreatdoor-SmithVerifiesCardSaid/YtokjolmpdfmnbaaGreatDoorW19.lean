/- Part 19 of the proof of the claim: contracts of the functions that it reaches, and plain laws; no condition. -/
import Derived.Test.YtokjolmpdfmnbaaGreatDoorW14
import Derived.BigQuiet
import Derived.Test.YtokjolmpdfmnbaaGreatDoorW11
import Derived.Test.YtokjolmpdfmnbaaGreatDoorW03
import Derived.Test.YtokjolmpdfmnbaaGreatDoorW17
import Derived.Test.YtokjolmpdfmnbaaGreatDoorW10
namespace Go.Proofs.YtokjolmpdfmnbaaGreatDoor
open Go.RowKit Go.Sort
theorem ss_atG {p : List Int} {i : Nat} (h : i < p.length) : (ss p)[i]? = some (I p[i]) := by simp [ss, h]
theorem list_getD_extG {a b : List Int} (hl : a.length = b.length) (h : ∀ j, j < a.length → a.getD j 0 = b.getD j 0) : a = b := by
  refine List.ext_getElem hl fun j h1 h2 => ?_
  have := h j h1
  rwa [getD_get h1, getD_get h2] at this
theorem mx_getD_extG {A B : Mx} (hl : A.length = B.length) (h : ∀ j, j < A.length → A.getD j [] = B.getD j []) : A = B := by
  refine List.ext_getElem hl fun j h1 h2 => ?_
  have := h j h1
  rwa [getD_get h1, getD_get h2] at this
set_option maxRecDepth 100000 in
set_option maxHeartbeats 1000000 in
theorem sEq_any {w : World} {va vb : Value} {a b : List Int} (hA : IntsR w va a) (hB : IntsR w vb b) (hbig : a.length ≤ 1000000) :
    Calls Tryz.prog 65 #[va, vb] w fun e w' => e = .returned (.bool (decide (a = b))) ∧ Ext w w' := by
  obtain ⟨sa, ga, oa, ca, rfl, hca, hSa⟩ := hA
  obtain ⟨sb, gb, ob, cb, rfl, hcb, hSb⟩ := hB
  by_cases hl : a.length = b.length
  · obtain ⟨n, hn⟩ : ∃ n, n = a.length := ⟨_, rfl⟩
    rw [← hl]
    rw [← hn] at hbig ⊢
    have HA := Lib.hid hSa
    have HB := Lib.hid hSb
    have Hn := Lib.hid hn
    have Hm := Lib.hid (hn.trans hl)
    clear hSa hSb hl hn hca hcb
    go_enter Tryz.func65, Tryz.ntmps65
    go_wp2_with fail
    go_loopw [13] (fun idx wr => ∃ i : Nat, i ≤ n ∧ idx = .int .i64 i ∧ Hid (∀ j, j < i → a.getD j 0 = b.getD j 0) ∧ Ext w wr) (fun idx _ => n - (intOf idx).toNat)
    case atStart => exact ⟨0, by omega, by go_num, Lib.hid (fun j h => by omega), Ext.refl _⟩
    case round =>
      obtain ⟨i, hi, rfl, Hz, hE⟩ := hrel
      generalize wr = X at *
      by_cases hlt : i < n
      · have hii : (i : Int) < (n : Int) := by omega
        have c1 := (HA.out.ext hE).cell i (I (a[i]'(by rw [← Hn.out]; exact hlt))) (ss_atG (by rw [← Hn.out]; exact hlt))
        have c2 := (HB.out.ext hE).cell i (I (b[i]'(by rw [← Hm.out]; exact hlt))) (ss_atG (by rw [← Hm.out]; exact hlt))
        obtain rfl := HA.out.addr (by rw [ss_length, ← Hn.out]; omega)
        obtain rfl := HB.out.addr (by rw [ss_length, ← Hm.out]; omega)
        obtain ⟨x, hx⟩ : ∃ x, x = a[i]'(by rw [← Hn.out]; exact hlt) := ⟨_, rfl⟩
        obtain ⟨y, hy⟩ : ∃ y, y = b[i]'(by rw [← Hm.out]; exact hlt) := ⟨_, rfl⟩
        rw [← hx] at c1
        rw [← hy] at c2
        have Hx := Lib.hid (show a.getD i 0 = x by rw [hx, getD_get (by rw [← Hn.out]; exact hlt)])
        have Hy := Lib.hid (show b.getD i 0 = y by rw [hy, getD_get (by rw [← Hm.out]; exact hlt)])
        clear hx hy
        by_cases hxy : x = y
        · subst hxy
          go_wp2_with fail
          go_quiet (fail)
          go_wp2_with fail
          go_roundw
          case rel => exact ⟨i + 1, by omega, by go_num, Lib.hid (fun j hj => by
            by_cases e : j = i
            · subst e; rw [Hx.out, Hy.out]
            · exact Hz.out j (by omega)), hE.drewN _⟩
          case measure => simp [intOf] <;> omega
        · have hb0 : Lib.itoa x ≠ Lib.itoa y := fun e => hxy (itoa_inj e)
          have hb1 : (Lib.itoa x == Lib.itoa y) = false := beq_eq_false_iff_ne.2 hb0
          have hb2 : (Lib.itoa x != Lib.itoa y) = true := by simp [bne, hb1]
          have Hne := Lib.hid (show decide (a = b) = false from decide_eq_false (fun e => hxy (by rw [← Hx.out, ← Hy.out, e])))
          go_wp2_with fail
          go_quiet (fail)
          go_wp2_with fail
          go_ret
          exact ⟨by rw [Hne.out]; rfl, hE.drewN _⟩
      · have Heq := Lib.hid (show decide (a = b) = true from decide_eq_true (list_getD_extG (by rw [← Hn.out, ← Hm.out]) (fun j hj => Hz.out j (by rw [← Hn.out] at hj; omega))))
        go_wp2_with fail
        go_ret
        exact ⟨by rw [Heq.out]; rfl, hE⟩
  · have hne : decide (a = b) = false := decide_eq_false (fun e => hl (by rw [e]))
    rw [hne]
    have h1 : ¬ ((a.length : Int) = (b.length : Int)) := by omega
    have h2 : ((a.length : Int) == (b.length : Int)) = false := beq_eq_false_iff_ne.2 h1
    have h3 : ((a.length : Int) != (b.length : Int)) = true := by simp [bne, h2]
    clear hSa hSb hca hcb hne
    generalize a.length = n at *
    generalize b.length = m at *
    go_enter Tryz.func65, Tryz.ntmps65
    go_wp2_with fail
    go_ret
    exact ⟨rfl, Ext.refl _⟩
theorem sVer1_any {w : World} {va vb : Value} {a b : List Int} (hA : IntsR w va a) (hB : IntsR w vb b) (hbig : a.length ≤ 1000000) :
    Calls Tryz.prog 64 #[va, vb] w fun e w' => e = .returned (.bool (decide (a = b))) ∧ Ext w w' := by
  have h := Lib.hid (sEq_any hA hB hbig)
  clear hA hB
  go_enter Tryz.func64, Tryz.ntmps64
  go_wp2_with fail
  refine h.out.mono ?_
  rintro e w1 ⟨rfl, hE⟩
  go_wp2_with fail
  go_ret
  exact ⟨rfl, hE⟩
set_option maxRecDepth 100000 in
set_option maxHeartbeats 1000000 in
theorem sEqF_any {w : World} {va vb : Value} {A B : Mx} (hA : GridR w va A) (hB : GridR w vb B) (hbig : A.length ≤ 1000000) (hbr : ∀ r ∈ A, r.length ≤ 1000000) :
    Calls Tryz.prog 63 #[va, vb, .func (.func 64) #[] #[]] w fun e w' => e = .returned (.bool (decide (A = B))) ∧ Ext w w' := by
  obtain ⟨sa, ga, oa, ca, va', rfl, hca, hvA, hSa, hrA⟩ := hA
  obtain ⟨sb, gb, ob, cb, vb', rfl, hcb, hvB, hSb, hrB⟩ := hB
  by_cases hl : A.length = B.length
  · obtain ⟨n, hn⟩ : ∃ n, n = A.length := ⟨_, rfl⟩
    rw [← hl]
    rw [← hn] at hbig ⊢
    have HA := Lib.hid hSa
    have HB := Lib.hid hSb
    have HvA := Lib.hid hvA
    have HvB := Lib.hid hvB
    have HrA := Lib.hid hrA
    have HrB := Lib.hid hrB
    have Hn := Lib.hid hn
    have Hm := Lib.hid (hn.trans hl)
    have Hbr := Lib.hid hbr
    clear hSa hSb hl hn hca hcb hvA hvB hrA hrB hbr
    go_enter Tryz.func63, Tryz.ntmps63
    go_wp2_with fail
    go_loopw [17] (fun idx wr => ∃ i : Nat, i ≤ n ∧ idx = .int .i64 i ∧ Hid (∀ j, j < i → A.getD j [] = B.getD j []) ∧ Ext w wr) (fun idx _ => n - (intOf idx).toNat)
    case atStart => exact ⟨0, by omega, by go_num, Lib.hid (fun j h => by omega), Ext.refl _⟩
    case round =>
      obtain ⟨i, hi, rfl, Hz, hE⟩ := hrel
      generalize wr = X at *
      by_cases hlt : i < n
      · have hii : (i : Int) < (n : Int) := by omega
        have hiA : i < A.length := by rw [← Hn.out]; exact hlt
        have hiB : i < B.length := by rw [← Hm.out]; exact hlt
        obtain ⟨sx, bx, ox, cx, hrx, hcx, hSx⟩ := GridR.row HA.out HvA.out HrA.out hiA
        obtain ⟨sy, by', oy, cy, hry, hcy, hSy⟩ := GridR.row HB.out HvB.out HrB.out hiB
        obtain rfl := HA.out.addr (by rw [HvA.out]; omega)
        obtain rfl := HB.out.addr (by rw [HvB.out]; omega)
        have k1 := hE.cell hrx
        have k2 := hE.cell hry
        have hx1 : IntsR X (.slice sx A[i].length cx) A[i] := ⟨sx, bx, ox, cx, rfl, hcx, hSx.ext hE⟩
        have hy1 : IntsR X (.slice sy B[i].length cy) B[i] := ⟨sy, by', oy, cy, rfl, hcy, hSy.ext hE⟩
        obtain ⟨lx, hlx⟩ : ∃ l, l = A[i].length := ⟨_, rfl⟩
        obtain ⟨ly, hly⟩ : ∃ l, l = B[i].length := ⟨_, rfl⟩
        rw [← hlx] at k1 hx1
        rw [← hly] at k2 hy1
        clear hlx hly
        have hEQ := Lib.hid (sVer1_any hx1 hy1 (Hbr.out _ (List.getElem_mem hiA)))
        have HxA := Lib.hid (show A.getD i [] = A[i] from getD_get hiA [])
        have HxB := Lib.hid (show B.getD i [] = B[i] from getD_get hiB [])
        obtain ⟨q, hq⟩ : ∃ q, q = decide (A[i] = B[i]) := ⟨_, rfl⟩
        rw [← hq] at hEQ
        have Hq := Lib.hid hq
        clear hrx hry hcx hcy hSx hSy hq hx1 hy1
        cases q
        · have Hne := Lib.hid (show decide (A = B) = false from decide_eq_false (fun e => by
            have := Hq.out.symm
            rw [decide_eq_false_iff_not] at this
            exact this (by rw [← HxA.out, ← HxB.out, e])))
          clear Hq HxA HxB
          go_wp2_with fail
          refine hEQ.out.mono ?_
          rintro e W6 ⟨rfl, hE6⟩
          have hE2 := hE.trans hE6
          clear k1 k2 hEQ
          go_wp2_with fail
          go_ret
          exact ⟨by rw [Hne.out]; rfl, hE2⟩
        · have Hok := Lib.hid (show A.getD i [] = B.getD i [] by rw [HxA.out, HxB.out]; exact of_decide_eq_true Hq.out.symm)
          have Hz2 := Lib.hid (show ∀ j, j < i + 1 → A.getD j [] = B.getD j [] from fun j hj => by
            by_cases e : j = i
            · subst e; exact Hok.out
            · exact Hz.out j (by omega))
          clear Hq HxA HxB
          go_wp2_with fail
          refine hEQ.out.mono ?_
          rintro e W6 ⟨rfl, hE6⟩
          have hE2 := hE.trans hE6
          clear k1 k2 hEQ
          go_wp2_with fail
          go_roundw
          case rel => exact ⟨i + 1, by omega, by go_num, Hz2, hE2⟩
          case measure => simp [intOf] <;> omega
      · have Heq := Lib.hid (show decide (A = B) = true from decide_eq_true (mx_getD_extG (by rw [← Hn.out, ← Hm.out]) (fun j hj => Hz.out j (by rw [← Hn.out] at hj; omega))))
        go_wp2_with fail
        go_ret
        exact ⟨by rw [Heq.out]; rfl, hE⟩
  · have hne : decide (A = B) = false := decide_eq_false (fun e => hl (by rw [e]))
    rw [hne]
    have h1 : ¬ ((A.length : Int) = (B.length : Int)) := by omega
    have h2 : ((A.length : Int) == (B.length : Int)) = false := beq_eq_false_iff_ne.2 h1
    have h3 : ((A.length : Int) != (B.length : Int)) = true := by simp [bne, h2]
    clear hSa hSb hca hcb hne hvA hvB hrA hrB hbr
    generalize A.length = n at *
    generalize B.length = m at *
    go_enter Tryz.func63, Tryz.ntmps63
    go_wp2_with fail
    go_ret
    exact ⟨rfl, Ext.refl _⟩
end Go.Proofs.YtokjolmpdfmnbaaGreatDoor
namespace Go.Proofs.YtokjolmpdfmnbaaGreatDoor
open Go.RowKit Go.Sort
set_option maxRecDepth 100000 in
set_option maxHeartbeats 1000000 in
theorem index_square {w : World} {sa : Option Addr} {gb go cap : Nat} {c1 : Value} {vs : List Value} {p : Nat → Bool} {k : Int} (hS : Sl w sa gb go vs) (hl : vs.length ≤ 1000000)
    (hF : ∀ i (h : i < vs.length) W, Ext w W → Calls Tryz.prog 116 #[vs[i], c1] W fun e w' => e = .returned (.bool (p i)) ∧ Ext W w') (hk : IxR p vs.length k) :
    Calls Tryz.prog 154 #[.slice sa vs.length cap, .func (.func 116) #[] #[c1]] w fun e w' => e = .returned (.int .i64 k) ∧ Ext w w' := by
  have HF := Lib.hid hF
  have HK := Lib.hid hk
  have HS := Lib.hid hS
  clear hF hk hS
  go_enter Tryz.func154, Tryz.ntmps154
  go_wp2_with fail
  go_loopw [8] (fun idx wr => ∃ i : Nat, i ≤ vs.length ∧ idx = .int .i64 i ∧ Hid (∀ j, j < i → p j = false) ∧ Ext w wr) (fun idx _ => vs.length - (intOf idx).toNat)
  case atStart => exact ⟨0, by omega, by go_num, Lib.hid (fun j h => by omega), Ext.refl _⟩
  case round =>
    obtain ⟨i, hi, rfl, Hp, hE⟩ := hrel
    generalize wr = X at *
    by_cases hlt : i < vs.length
    · have hii : (i : Int) < (vs.length : Int) := by omega
      obtain ⟨u, hu⟩ : ∃ u, u = vs[i] := ⟨_, rfl⟩
      have hc := hE.cell (HS.out.cell i u (by rw [hu]; exact List.getElem?_eq_getElem hlt))
      obtain rfl := HS.out.addr (by omega)
      have hf := HF.out i hlt X hE
      rw [← hu] at hf
      have Hf := Lib.hid hf
      clear hf hu
      cases hpi : p i
      · rw [hpi] at Hf
        have Hpi := Lib.hid hpi
        clear hpi
        go_wp2_with fail
        refine Hf.out.mono ?_
        rintro e W ⟨rfl, hE2⟩
        go_wp2_with fail
        go_roundw
        case rel => exact ⟨i + 1, by omega, by go_num, Lib.hid (fun j hj => by
          by_cases e : j = i
          · subst e; exact Hpi.out
          · exact Hp.out j (by omega)), hE.trans hE2⟩
        case measure => simp [intOf] <;> omega
      · rw [hpi] at Hf
        have Hki := Lib.hid (IxR_at HK.out hlt hpi Hp.out)
        clear hpi
        go_wp2_with fail
        refine Hf.out.mono ?_
        rintro e W ⟨rfl, hE2⟩
        go_wp2_with fail
        go_ret
        exact ⟨by rw [Hki.out]; rfl, hE.trans hE2⟩
    · have Hki := Lib.hid (IxR_no HK.out (fun j hj => Hp.out j (by omega)))
      go_wp2_with fail
      go_ret
      exact ⟨by rw [Hki.out]; rfl, hE⟩
set_option maxRecDepth 100000 in
theorem contains_square {w : World} {sa : Option Addr} {gb go cap : Nat} {c1 : Value} {vs : List Value} {p : Nat → Bool} (hS : Sl w sa gb go vs) (hl : vs.length ≤ 1000000)
    (hF : ∀ i (h : i < vs.length) W, Ext w W → Calls Tryz.prog 116 #[vs[i], c1] W fun e w' => e = .returned (.bool (p i)) ∧ Ext W w') :
    Calls Tryz.prog 115 #[.slice sa vs.length cap, .func (.func 116) #[] #[c1]] w fun e w' => e = .returned (.bool (anyB p vs.length)) ∧ Ext w w' := by
  obtain ⟨k, hk⟩ := IxR_ex p vs.length
  have Hge := Lib.hid (IxR_ge hk)
  have HI := Lib.hid (index_square (cap := cap) hS hl hF hk)
  clear hS hF hk
  go_enter Tryz.func115, Tryz.ntmps115
  go_wp2_with fail
  refine HI.out.mono ?_
  rintro e W ⟨rfl, hE⟩
  go_wp2_with fail
  go_ret
  exact ⟨by rw [← Hge.out]; rfl, hE⟩
end Go.Proofs.YtokjolmpdfmnbaaGreatDoor
namespace Go.Proofs.YtokjolmpdfmnbaaGreatDoor
open Go.RowKit Go.Sort
def squareB (M : Mx) (n : Nat) : Bool := decide (M.length = n) && !anyB (fun i => decide ((M.getD i []).length ≠ n)) M.length
set_option maxRecDepth 100000 in
theorem square1_any {w : World} {v : Value} {r : List Int} {b n : Nat} (hR : RowR w v r) (_ : r.length ≤ 1000000) (hb : w.cell? ⟨b, 0, none⟩ = some (.int .i64 n)) :
    Calls Tryz.prog 116 #[v, .pointer (some ⟨b, 0, none⟩)] w fun e w' => e = .returned (.bool (decide (r.length ≠ n))) ∧ Ext w w' := by
  obtain ⟨sa, ga, oa, ca, rfl, hca, hSa⟩ := hR
  clear hca hSa
  generalize r.length = m at *
  by_cases h : m = n
  · subst h
    rw [decide_eq_false (by simp)]
    go_enter Tryz.func116, Tryz.ntmps116
    go_wp2_with fail
    go_ret
    exact ⟨rfl, Ext.refl _⟩
  · rw [decide_eq_true h]
    have h1 : ¬ (m : Int) = (n : Int) := by omega
    have h2 : ((m : Int) == (n : Int)) = false := beq_eq_false_iff_ne.2 h1
    have h3 : ((m : Int) != (n : Int)) = true := by simp [bne, h2]
    go_enter Tryz.func116, Tryz.ntmps116
    go_wp2_with fail
    go_ret
    exact ⟨rfl, Ext.refl _⟩
set_option maxRecDepth 100000 in
theorem square_any {w : World} {v : Value} {M : Mx} {n : Nat} (hM : MatR w v M) (hl : M.length ≤ 1000000) (hr : ∀ r ∈ M, r.length ≤ 1000000) :
    Calls Tryz.prog 60 #[v, .int .i64 n] w fun e w' => e = .returned (.bool (squareB M n)) ∧ Ext w w' := by
  obtain ⟨sa, ga, oa, ca, vs, rfl, hca, hvl, hS, hrw⟩ := hM
  by_cases h : M.length = n
  · have hco := Lib.hid (fun W b (hE : Ext w W) (hb : W.cell? ⟨b, 0, none⟩ = some (.int .i64 n)) =>
      contains_square (cap := ca) (c1 := .pointer (some ⟨b, 0, none⟩)) (p := fun i => decide ((M.getD i []).length ≠ n)) (hS.ext hE) (by omega) (fun i h W' hW' => by
        have hi : i < M.length := by omega
        have := square1_any (n := n) ((hrw i hi h).ext (hE.trans hW')) (hr _ (List.getElem_mem hi)) (hW'.cell hb)
        rw [show M.getD i [] = M[i] from getD_get hi []]
        exact this))
    rw [hvl] at hco
    have hq : squareB M n = !anyB (fun i => decide ((M.getD i []).length ≠ n)) M.length := by unfold squareB; rw [decide_eq_true h, Bool.true_and]
    rw [hq]
    obtain ⟨q, hqd⟩ : ∃ q, q = anyB (fun i => decide ((M.getD i []).length ≠ n)) M.length := ⟨_, rfl⟩
    rw [← hqd] at hco ⊢
    rw [h] at hco ⊢
    clear hS hrw hr hvl hq hqd hca h hl
    have d1 : Ext w (w.alloc (.cells #[.int .i64 n] 3)) := (Ext.refl w).alloc _
    go_enter Tryz.func60, Tryz.ntmps60
    go_wp2_with fail
    refine (hco.out _ w.heap.size d1 (by go_simp)).mono ?_
    rintro e w1 ⟨rfl, hE1⟩
    go_wp2_with fail
    go_ret
    exact ⟨rfl, d1.trans hE1⟩
  · have hq : squareB M n = false := by unfold squareB; rw [decide_eq_false h, Bool.false_and]
    rw [hq]
    clear hS hrw hr hvl hq hca hl
    generalize M.length = m at *
    have h1 : ¬ (m : Int) = (n : Int) := by omega
    have h2 : ((m : Int) == (n : Int)) = false := beq_eq_false_iff_ne.2 h1
    have d1 : Ext w (w.alloc (.cells #[.int .i64 n] 3)) := (Ext.refl w).alloc _
    go_enter Tryz.func60, Tryz.ntmps60
    go_wp2_with fail
    go_ret
    exact ⟨rfl, d1⟩
end Go.Proofs.YtokjolmpdfmnbaaGreatDoor
namespace Go.Proofs.YtokjolmpdfmnbaaGreatDoor
open Hnf
theorem wps_at {ps : List Nat} {F : Mx} (hl : ps.length = F.length) {g : Nat × V} (h : g ∈ wps ps F) : ∃ i, i < F.length ∧ g.1 = ps.getD i 0 ∧ g.2 = vr (F.getD i []) := by
  unfold wps at h
  obtain ⟨x, hx, rfl⟩ := List.mem_map.1 h
  obtain ⟨i, hi, rfl⟩ := List.getElem_of_mem hx
  simp only [List.length_zip] at hi
  refine ⟨i, by omega, ?_, ?_⟩
  · rw [getD_get (by omega)]; simp
  · rw [getD_get (by omega)]; simp
theorem IsH.lead {m p : Nat} {qs : List Nat} {K : Mx} (hI : IsH m qs K) {v : V} (hs : Span (latM K) v) (hv : v p ≠ 0) (h0 : ∀ i, i < p → v i = 0) : ∃ i, i < K.length ∧ qs.getD i 0 = p ∧ eM K i p ∣ v p := by
  rw [← wps_rows hI.len] at hs
  obtain ⟨g, hg, hp, hd⟩ := hI.ech.lead hs hv h0
  obtain ⟨i, hi, h1, h2⟩ := wps_at hI.len hg
  exact ⟨i, hi, by rw [← h1, hp], by rw [h2] at hd; exact hd⟩
theorem IsH.inj {m i k : Nat} {qs : List Nat} {K : Mx} (hI : IsH m qs K) (hi : i < K.length) (hk : k < K.length) (h : qs.getD i 0 = qs.getD k 0) : i = k := by
  rcases Nat.lt_trichotomy i k with h1 | h1 | h1
  · have := hI.inc i k h1 hk; omega
  · exact h1
  · have := hI.inc k i h1 hi; omega
def two (a b : Int) : V := fun k => if k = 0 then a else if k = 1 then b else 0
end Go.Proofs.YtokjolmpdfmnbaaGreatDoor
namespace Go.Proofs.YtokjolmpdfmnbaaGreatDoor
open Hnf
def v3 (a b c : Int) : Nat → Int := fun i => if i = 0 then a else if i = 1 then b else if i = 2 then c else 0
end Go.Proofs.YtokjolmpdfmnbaaGreatDoor
namespace Go.Proofs.YtokjolmpdfmnbaaGreatDoor
open Hnf
end Go.Proofs.YtokjolmpdfmnbaaGreatDoor
namespace Go.Proofs.YtokjolmpdfmnbaaGreatDoor
open Go.RowKit Go.Sort
structure ShapeV (cs : Array Value) (R C : Nat) (es : List Int) : Prop where
  sz : cs.size = 11
  c0 : cs[0]? = some (.int .u8 R)
  c1 : cs[1]? = some (.int .u8 C)
  len : es.length = 9
  ent : ∀ j, j < 9 → cs[2 + j]? = some (.int .i8 (es.getD j 0))
  rng : ∀ j, j < 9 → -128 ≤ es.getD j 0 ∧ es.getD j 0 ≤ 127
  r8 : R < 256
  c8 : C < 256
def shE (es : List Int) (i k : Nat) : Int := (es.getD (3 * i + k) 0).tmod 10
def shRow (es : List Int) (n i : Nat) : List Int := (List.range n).map (shE es i)
def shM (es : List Int) (n i : Nat) : Mx := (List.range i).map (shRow es n)
def shTo (es : List Int) (n i k : Nat) : List Int := (List.range k).map (shE es i) ++ List.replicate (n - k) 0
theorem shTo_zero (es : List Int) (n i : Nat) : shTo es n i 0 = List.replicate n 0 := by simp [shTo]
theorem shTo_all (es : List Int) (n i : Nat) : shTo es n i n = shRow es n i := by simp [shTo, shRow]
theorem shTo_length (es : List Int) {n i k : Nat} (h : k ≤ n) : (shTo es n i k).length = n := by simp [shTo]; omega
theorem shTo_set (es : List Int) {n i k : Nat} (h : k < n) : (shTo es n i k).set k (shE es i k) = shTo es n i (k + 1) := by
  unfold shTo
  rw [List.set_append_right _ _ (by simp), List.range_succ, List.map_append, List.append_assoc]
  congr 1
  simp only [List.length_map, List.length_range, Nat.sub_self]
  rw [show n - k = (n - (k + 1)) + 1 by omega, List.replicate_succ, List.set_cons_zero]
  rfl
theorem shM_snoc (es : List Int) (n i : Nat) : shM es n i ++ [shRow es n i] = shM es n (i + 1) := by
  unfold shM; rw [List.range_succ, List.map_append]; rfl
@[simp] theorem shM_length (es : List Int) (n i : Nat) : (shM es n i).length = i := by simp [shM]
theorem shM_rect (es : List Int) (n i : Nat) : Rect n (shM es n i) := fun r hr => by
  obtain ⟨t, _, rfl⟩ := List.mem_map.1 hr
  simp [shRow]
theorem shE_b (es : List Int) (i k : Nat) : -9 ≤ shE es i k ∧ shE es i k ≤ 9 := by
  unfold shE
  generalize es.getD (3 * i + k) 0 = z
  have h1 := Int.tmod_lt_of_pos z (b := 10) (by omega)
  have h2 := Int.lt_tmod_of_pos z (b := 10) (by omega)
  omega
theorem shM_b (es : List Int) (n i : Nat) : ∀ r ∈ shM es n i, ∀ z ∈ r, -9 ≤ z ∧ z ≤ 9 := fun r hr z hz => by
  obtain ⟨t, _, rfl⟩ := List.mem_map.1 hr
  obtain ⟨k, _, rfl⟩ := List.mem_map.1 hz
  exact shE_b es t k
theorem sh_cell {w : World} {cs : Array Value} {T : TypeId} {j : Nat} {x : Value} (h : cs[j]? = some x) : (w.alloc (.cells cs T)).cell? ⟨w.heap.size, j, none⟩ = some x := by
  have e : (w.alloc (.cells cs T)).cell? ⟨w.heap.size, j, none⟩ = cs[j]? := by go_simp
  rw [e, h]
set_option maxRecDepth 100000 in
set_option maxHeartbeats 2000000 in
theorem Make08_any {w : World} {cs : Array Value} {R C : Nat} {es : List Int} (hG : ShapeV cs R C es) :
    Calls Tryz.prog 9 #[.agg cs] w fun e w' => ∃ v, e = .returned v ∧ MatO w.heap.size w' v (shM es (C % 4) (R % 4)) ∧ Ext w w' := by
  have h0 := sh_cell (w := w) (T := 25) hG.c0
  have h1 := sh_cell (w := w) (T := 25) hG.c1
  have Hent := Lib.hid (fun j hj => sh_cell (w := w) (T := 25) (hG.ent j hj))
  have Hrng := Lib.hid hG.rng
  have hR := hG.r8
  have hC := hG.c8
  have hEw := (Ext.refl w).alloc (.cells cs 25)
  have hsz : w.heap.size < (w.alloc (.cells cs 25)).heap.size := by simp
  obtain ⟨i0, hi, hz0, hz1, hz2⟩ := info_parts Tryz.infoInt
  obtain ⟨m, hm⟩ : ∃ m, m = R % 4 := ⟨_, rfl⟩
  obtain ⟨n, hn⟩ : ∃ n, n = C % 4 := ⟨_, rfl⟩
  have hmI : (R : Int) % 4 = (m : Int) := by omega
  have hnI : (C : Int) % 4 = (n : Int) := by omega
  have hm4 : m < 4 := by omega
  have hn4 : n < 4 := by omega
  rw [← hm, ← hn]
  clear hm hn hG
  go_enter Tryz.func9, Tryz.ntmps9
  go_wp2_with fail
  generalize (w.alloc (.cells cs 25)) = V at *
  go_loopw [3, 4] (fun out idx wr => ∃ i : Nat, i ≤ m ∧ idx = .int .i64 i ∧ Hid (MatO V.heap.size wr out (shM es n i)) ∧ Ext V wr) (fun _ idx _ => m - (intOf idx).toNat)
  case atStart => exact ⟨0, by omega, by go_num, Lib.hid (MatO.nil _ _), Ext.refl _⟩
  case round =>
    obtain ⟨i, hi', rfl, hO, hE⟩ := hrel
    generalize wr = X at *
    have h0X := hE.cell h0
    have h1X := hE.cell h1
    by_cases hlt : i < m
    · have hii : (i : Int) < (m : Int) := by omega
      go_wp2_with (at_make; refine wpList_make_full _ rfl _ _ 32 rfl X.heap.size 3 i0 (.int .i64 0) 1 Tryz.underlying32 hi hz0 hz1 .i64 .i64 _ _ n rfl rfl (by omega) (by omega) (by rw [hz2]; omega) (by unfold maxLen; omega) (Nat.le_refl _) ?_; intro w1 hown1 hgrow1)
      have hEm := ext_grown hgrow1
      obtain ⟨gx, hgx⟩ : ∃ gx, gx = X.heap.size := ⟨_, rfl⟩
      have hb0 : OwnV 3 X.heap.size w1 X.heap.size n (is (List.replicate n 0)) := row_ownV (zero_row hown1) (by simp)
      rw [← hgx] at hb0 ⊢
      have HO1 := Lib.hid hb0
      have hgle : X.heap.size ≤ gx := by omega
      have hVX := hE.size
      clear hown1 hgrow1 hb0 hgx
      go_wp2_with fail
      go_loopw [6] (fun kv wr => ∃ k : Nat, k ≤ n ∧ kv = .int .i64 k ∧ Hid (OwnV 3 gx wr gx n (is (shTo es n i k))) ∧ Ext X wr) (fun kv _ => n - (intOf kv).toNat)
      case atStart => exact ⟨0, by omega, by go_num, Lib.hid (by rw [shTo_zero]; exact HO1.out), hEm⟩
      case round =>
        obtain ⟨k, hk, rfl, hI, hEX⟩ := hrel
        generalize wr = Y at *
        by_cases hlt2 : k < n
        · have hki : (k : Int) < (n : Int) := by omega
          obtain ⟨z, hz⟩ : ∃ z, z = es.getD (3 * i + k) 0 := ⟨_, rfl⟩
          have cz := (hE.trans hEX).cell (Hent.out (3 * i + k) (by omega))
          rw [← hz] at cz
          have hzr := Hrng.out (3 * i + k) (by omega)
          rw [← hz] at hzr
          have hset := shTo_set es (i := i) hlt2
          have he : shE es i k = z.tmod 10 := by unfold shE; rw [hz]
          rw [he] at hset
          have Hset := Lib.hid hset
          have hi3 : (3 * (i : Int) + k) < 9 := by omega
          have hq : -9 ≤ z.tmod 10 ∧ z.tmod 10 ≤ 9 := by rw [← he]; exact shE_b es i k
          obtain ⟨u, hu⟩ := (show ∃ u, Y.cell? ⟨gx, k, none⟩ = some u from ⟨_, hI.out.cell (j := k) (by rw [is_length, shTo_length es (by omega)]; exact hlt2)⟩)
          have fz := hI.out.frozen k
          obtain ⟨hO6, hG6⟩ := hI.out.set k (.int .i64 (z.tmod 10))
          rw [← is_set, Hset.out] at hO6
          have HO6 := Lib.hid hO6
          have hE6 := Lib.hid (ext_trans_grown hEX hG6 hgle)
          clear hO6 hG6 hz hset he
          go_wp2_with fail
          go_roundw
          case rel => exact ⟨k + 1, by omega, by go_num, HO6, hE6.out⟩
          case measure => simp [intOf] <;> omega
        · have hke : k = n := by omega
          have hki : ¬ (k : Int) < (n : Int) := by omega
          have HR := Lib.hid (show RowV V.heap.size Y (.slice (some ⟨gx, 0, none⟩) n n) (shRow es n i) by
            have h2 := hI.out
            rw [hke, shTo_all] at h2
            have h3 := h2.mono (show V.heap.size ≤ gx by omega)
            unfold OwnV at h3
            unfold RowV
            simpa [shRow] using h3)
          have HOy := Lib.hid (hO.out.ext hEX)
          have hEY := hE.trans hEX
          have hVY := hEY.size
          have HM9 := Lib.hid (show (shM es n i).length ≤ 1000000000 by rw [shM_length]; omega)
          have hMk := shM_length es n i
          have Hsn := Lib.hid (shM_snoc es n i)
          clear hke hI HO1 hEX
          generalize shM es n i = Mi at *
          go_wp2_with (at_builtin; refine app_mat rfl _ _ rfl rfl (HOy.out.ext ((Ext.refl _).alloc _)) rfl (b := Y.heap.size) (by go_simp) (HR.out.ext ((Ext.refl _).alloc _)) HM9.out (by simp; omega) ?_; intro gg cap2 w8 hO8 hB8 hG8; rw [hMk] at hO8 ⊢)
          have hE8 : Ext V w8 := Below.trans (hEY.alloc (.cells #[.slice (some ⟨gx, 0, none⟩) n n] 32)) hB8
          rw [Hsn.out] at hO8
          have hO9 := Lib.hid hO8
          clear hG8 hB8 hO8
          go_wp2_with fail
          go_roundw
          case rel => exact ⟨i + 1, by omega, by go_num, hO9, hE8⟩
          case measure => simp [intOf] <;> omega
    · have hie : i = m := by omega
      have hii : ¬ (i : Int) < (m : Int) := by omega
      subst hie
      have Hres := Lib.hid (show MatO w.heap.size X _ (shM es n i) from hO.out.mono (by omega))
      go_wp2_with fail
      go_ret
      exact ⟨_, rfl, Hres.out, hEw.trans hE⟩
end Go.Proofs.YtokjolmpdfmnbaaGreatDoor
namespace Go.Proofs.YtokjolmpdfmnbaaGreatDoor
open Go.RowKit Go.Sort
theorem Columns08_any {w : World} {vm : Value} {M : Mx} (hM : MatR w vm M) :
    Calls Tryz.prog 17 #[vm] w fun e w' => e = .returned (.int .i64 (ncols M : Nat)) ∧ Ext w w' := by
  obtain ⟨sa, gb, go, cap, vs, rfl, hcap, hvl, hS, hr⟩ := id hM
  rcases Nat.eq_zero_or_pos M.length with h0 | h0
  · have hn : ncols M = 0 := by
      have : M = [] := List.length_eq_zero_iff.1 h0
      rw [this]; rfl
    rw [hn, h0]
    clear hS hr hvl hM
    go_enter Tryz.func17, Tryz.ntmps17
    go_wp2_with fail
    go_ret
    exact ⟨rfl, Ext.refl _⟩
  · obtain ⟨sr, br, or, cr, hrow, _, _⟩ := MatR.row hS hvl hr h0
    have hn : M[0].length = ncols M := by unfold ncols; rw [getD_get h0]
    rw [hn, Nat.add_zero] at hrow
    obtain rfl := hS.addr (by omega)
    have hl0 : ((M.length : Int) == 0) = false := beq_eq_false_iff_ne.2 (by omega)
    have hl1 : M.length ≠ 0 := by omega
    have hl2 : (0 : Int) < (M.length : Int) := by omega
    rename_i hk9 hk8
    clear hk9 hk8 hS hr hvl hM hn hcap h0
    generalize ncols M = c at *
    generalize M.length = N at *
    go_enter Tryz.func17, Tryz.ntmps17
    go_wp2_with fail
    go_ret
    exact ⟨rfl, Ext.refl _⟩
end Go.Proofs.YtokjolmpdfmnbaaGreatDoor
namespace Go.Proofs.YtokjolmpdfmnbaaGreatDoor
open Go.RowKit Go.Sort
theorem I_nat (u : Nat) : I (u : Int) = D u := by unfold I D; rw [itoa_nat]
set_option maxHeartbeats 1000000 in
theorem dGcd_any {u v : Nat} (hu : Lib.nDigits u < LIM) (hv : Lib.nDigits v < LIM) {w : World} (hL : Laid w) :
    Calls Tryz.prog 149 #[D u, D v] w fun e w' => e = .returned (D (Nat.gcd u v)) ∧ Ext w w' := by
  have HL := Lib.hid hL
  obtain ⟨g, hg⟩ : ∃ g, g = Nat.gcd u v := ⟨_, rfl⟩
  have H0 := Lib.hid (⟨hu, hv, hg.symm⟩ : Lib.nDigits u < LIM ∧ Lib.nDigits v < LIM ∧ Nat.gcd u v = g)
  rw [← hg]
  clear hL hu hv hg
  go_enter Tryz.func149, Tryz.ntmps149
  go_wp2_with fail
  go_loopg [0, 1, 5, 6, 7] v (fun k av bv _ _ _ wr => ∃ (x y : Nat), av = D x ∧ bv = D y ∧ k = y ∧ Hid (Lib.nDigits x < LIM ∧ Lib.nDigits y < LIM ∧ Nat.gcd x y = g) ∧ Ext w wr)
  case atStart => exact ⟨u, v, rfl, rfl, rfl, Lib.hid ⟨H0.out.1, H0.out.2.1, H0.out.2.2⟩, Ext.refl _⟩
  case round =>
    obtain ⟨x, y, rfl, rfl, rfl, HK, hE⟩ := hrel
    generalize wr = V at *
    by_cases hy : gk = 0
    · have hvz : (Lib.decDigits gk == [48]) = true := by rw [dec_eq_zero, decide_eq_true hy]
      have Hg := Lib.hid (show g = x by have := HK.out.2.2; rw [hy, Nat.gcd_zero_right] at this; exact this.symm)
      clear hy
      go_wp2_with fail
      go_ret
      exact ⟨ret_val (by rw [Hg.out]; rfl), hE⟩
    · have hvz : (Lib.decDigits gk == [48]) = false := by rw [dec_eq_zero, decide_eq_false hy]
      have hdm := Lib.hid (dDivMod_any HK.out.1 HK.out.2.1 hy (HL.out.ext hE))
      have Hm := Lib.hid (Nat.mod_lt x (Nat.pos_of_ne_zero hy))
      have HK2 := Lib.hid (show Lib.nDigits gk < LIM ∧ Lib.nDigits (x % gk) < LIM ∧ Nat.gcd gk (x % gk) = g from ⟨HK.out.2.1, Nat.lt_of_le_of_lt (nDigits_mono (Nat.le_of_lt Hm.out)) HK.out.2.1, by rw [← HK.out.2.2, Nat.gcd_comm gk, ← Nat.gcd_rec, Nat.gcd_comm]⟩)
      generalize x % gk = r at *
      clear hy HK
      go_wp2_with fail
      refine hdm.out.mono ?_
      rintro e w1 ⟨rfl, hE1⟩
      go_wp2_with fail
      go_roundg r
      case measure => exact Hm.out
      case rel => exact ⟨gk, r, rfl, rfl, rfl, HK2, hE.trans hE1⟩
theorem dLcm_any {u v : Nat} (hu0 : u ≠ 0) (hv0 : v ≠ 0) (huv : Lib.nDigits u + Lib.nDigits v < LIM) {w : World} (hL : Laid w) :
    Calls Tryz.prog 101 #[D u, D v] w fun e w' => e = .returned (D (Nat.lcm u v)) ∧ Ext w w' := by
  have HL := Lib.hid hL
  have hvz : (Lib.decDigits v == [48]) = false := by rw [dec_eq_zero, decide_eq_false hv0]
  have huz : (Lib.decDigits u == [48]) = false := by rw [dec_eq_zero, decide_eq_false hu0]
  have hgp : Nat.gcd u v ≠ 0 := Nat.gcd_ne_zero_left hu0
  have hgl : Nat.gcd u v ≤ u := Nat.gcd_le_left _ (by omega)
  have pu := Lib.nDigits_pos u
  have pv := Lib.nDigits_pos v
  have hg := Lib.hid (dGcd_any (u := u) (v := v) (by omega) (by omega) hL)
  have hd := Lib.hid (fun w hL => dDivMod_any (u := u) (v := Nat.gcd u v) (w := w) (by omega) (by have := nDigits_mono hgl; omega) hgp hL)
  have hm := Lib.hid (fun w hL => dMul_any (u := u / Nat.gcd u v) (v := v) (w := w) (by have := nDigits_mono (Nat.div_le_self u (Nat.gcd u v)); omega) hL)
  have He := Lib.hid (show u / Nat.gcd u v * v = Nat.lcm u v by
    rw [Nat.lcm, Nat.div_mul_right_comm (Nat.gcd_dvd_left u v)])
  rw [He.out] at hm
  clear hu0 hv0 huv hgp hgl pu pv hL He
  generalize Nat.gcd u v = g at *
  generalize Nat.lcm u v = L at *
  generalize u / g = q at *
  generalize u % g = r at *
  go_enter Tryz.func101, Tryz.ntmps101
  go_wp2_with fail
  refine hg.out.mono ?_
  rintro e w1 ⟨rfl, hE1⟩
  go_wp2_with fail
  refine (hd.out _ (HL.out.ext hE1)).mono ?_
  rintro e w2 ⟨rfl, hE2⟩
  go_wp2_with fail
  refine (hm.out _ (HL.out.ext (hE1.trans hE2))).mono ?_
  rintro e w3 ⟨rfl, hE3⟩
  go_wp2_with fail
  go_ret
  exact ⟨rfl, (hE1.trans hE2).trans hE3⟩
theorem wgcd_any {u v : Nat} (hu : u < 1000000000000000000) (hv : v < 1000000000000000000) (w : World) :
    Calls Tryz.prog 176 #[.int .i64 u, .int .i64 v] w fun e w' => e = .returned (.int .i64 (Nat.gcd u v : Nat)) ∧ Ext w w' := by
  obtain ⟨g, hg⟩ : ∃ g, g = Nat.gcd u v := ⟨_, rfl⟩
  have H0 := Lib.hid hg.symm
  rw [← hg]
  clear hg
  go_enter Tryz.func176, Tryz.ntmps176
  go_wp2_with fail
  go_loopg [0, 1] v (fun k av bv wr => ∃ (x y : Nat), av = .int .i64 x ∧ bv = .int .i64 y ∧ k = y ∧ x < 1000000000000000000 ∧ y < 1000000000000000000 ∧ Hid (Nat.gcd x y = g) ∧ Ext w wr)
  case atStart => exact ⟨u, v, rfl, rfl, rfl, hu, hv, H0, Ext.refl _⟩
  case round =>
    obtain ⟨x, y, rfl, rfl, rfl, hx, hy, HK, hE⟩ := hrel
    generalize wr = V at *
    by_cases hz : gk = 0
    · subst hz
      have Hg := Lib.hid (show g = x by have := HK.out; rw [Nat.gcd_zero_right] at this; exact this.symm)
      go_wp2_with fail
      go_ret
      exact ⟨ret_val (by rw [Hg.out]; rfl), hE⟩
    · have hzi : ((gk : Int) == 0) = false := beq_eq_false_iff_ne.2 (by omega)
      have hr : Int.tmod (x : Int) (gk : Int) = ((x % gk : Nat) : Int) := by rw [Int.tmod_eq_emod_of_nonneg (by omega)]; omega
      have Hm := Nat.mod_lt x (Nat.pos_of_ne_zero hz)
      have HK2 := Lib.hid (show Nat.gcd gk (x % gk) = g by rw [← HK.out, Nat.gcd_comm gk, ← Nat.gcd_rec, Nat.gcd_comm])
      generalize x % gk = r at *
      clear hz HK
      go_wp2_with fail
      go_quiet (fail)
      go_wp2_with fail
      go_roundg r
      case measure => exact Hm
      case rel => exact ⟨gk, r, rfl, rfl, rfl, hy, by omega, HK2, hE.drewN _⟩
theorem fits_abs {z : Int} : fits 18 (z.natAbs : Int) = decide (Lib.nDigits z.natAbs ≤ 18) := by
  unfold fits; rw [itoa_nat, Lib.decDigits_length]
theorem wGcd_any {a b : Int} (ha : nd a < LIM) (hb : nd b < LIM) {w : World} (hL : Laid w) :
    Calls Tryz.prog 147 #[I a, I b] w fun e w' => e = .returned (I (Nat.gcd a.natAbs b.natAbs : Nat)) ∧ Ext w w' := by
  have HL := Lib.hid hL
  have h1 := Lib.hid (Abs_any (z := a) (Nat.le_of_lt ha))
  have h2 := Lib.hid (Abs_any (z := b) (Nat.le_of_lt hb))
  have l1 := Lib.hid (little_any (z := (a.natAbs : Int)) (m := 18) (by show Lib.nDigits _ ≤ _; rw [Int.natAbs_natCast]; exact Nat.le_of_lt ha) (by omega))
  have l2 := Lib.hid (little_any (z := (b.natAbs : Int)) (m := 18) (by show Lib.nDigits _ ≤ _; rw [Int.natAbs_natCast]; exact Nat.le_of_lt hb) (by omega))
  have hdg := Lib.hid (fun w hL => dGcd_any (u := a.natAbs) (v := b.natAbs) (w := w) ha hb hL)
  rw [fits_abs] at l1 l2
  rw [I_nat]
  rw [I_nat] at h1 h2 l1 l2
  clear hL ha hb
  generalize a.natAbs = u at *
  generalize b.natAbs = v at *
  by_cases hs1 : Lib.nDigits u ≤ 18
  · rw [decide_eq_true hs1] at l1
    by_cases hs2 : Lib.nDigits v ≤ 18
    · rw [decide_eq_true hs2] at l2
      rw [if_pos rfl] at l1 l2
      have b1 := lt_pow_of_nd hs1
      have b2 := lt_pow_of_nd hs2
      have hgl : Nat.gcd u v < 1000000000000000000 := by
        by_cases h0 : u = 0
        · subst h0; rw [Nat.gcd_zero_left]; omega
        · have := Nat.gcd_le_left v (Nat.pos_of_ne_zero h0); omega
      have hg := Lib.hid (wgcd_any (u := u) (v := v) (by omega) (by omega))
      have hof := Lib.hid (fun w hL => wholeOf_any (n := (Nat.gcd u v : Nat)) (w := w) (by omega) (by omega) hL)
      rw [I_nat] at hof
      clear hs1 hs2 hdg b1 b2
      generalize Nat.gcd u v = g at *
      go_enter Tryz.func147, Tryz.ntmps147
      go_wp2_with fail
      refine (h1.out _).mono ?_
      rintro e w1 ⟨rfl, hE1⟩
      go_wp2_with fail
      refine (h2.out _).mono ?_
      rintro e w2 ⟨rfl, hE2⟩
      go_wp2_with fail
      refine (l1.out _).mono ?_
      rintro e w3 ⟨rfl, hE3⟩
      go_wp2_with fail
      refine (l2.out _).mono ?_
      rintro e w4 ⟨rfl, hE4⟩
      go_wp2_with fail
      refine (hg.out _).mono ?_
      rintro e w5 ⟨rfl, hE5⟩
      go_wp2_with fail
      have hE := (((hE1.trans hE2).trans hE3).trans hE4).trans hE5
      refine (hof.out _ (HL.out.ext hE)).mono ?_
      rintro e w6 ⟨rfl, hE6⟩
      go_wp2_with fail
      go_ret
      exact ⟨rfl, hE.trans hE6⟩
    · rw [decide_eq_false hs2] at l2
      rw [if_pos rfl] at l1
      clear hs1 hs2
      go_enter Tryz.func147, Tryz.ntmps147
      go_wp2_with fail
      refine (h1.out _).mono ?_
      rintro e w1 ⟨rfl, hE1⟩
      go_wp2_with fail
      refine (h2.out _).mono ?_
      rintro e w2 ⟨rfl, hE2⟩
      go_wp2_with fail
      refine (l1.out _).mono ?_
      rintro e w3 ⟨rfl, hE3⟩
      go_wp2_with fail
      refine (l2.out _).mono ?_
      rintro e w4 ⟨rfl, hE4⟩
      go_wp2_with fail
      have hE := ((hE1.trans hE2).trans hE3).trans hE4
      refine (hdg.out _ (HL.out.ext hE)).mono ?_
      rintro e w5 ⟨rfl, hE5⟩
      go_wp2_with fail
      go_ret
      exact ⟨rfl, hE.trans hE5⟩
  · rw [decide_eq_false hs1] at l1
    clear hs1
    go_enter Tryz.func147, Tryz.ntmps147
    go_wp2_with fail
    refine (h1.out _).mono ?_
    rintro e w1 ⟨rfl, hE1⟩
    go_wp2_with fail
    refine (h2.out _).mono ?_
    rintro e w2 ⟨rfl, hE2⟩
    go_wp2_with fail
    refine (l1.out _).mono ?_
    rintro e w3 ⟨rfl, hE3⟩
    go_wp2_with fail
    have hE := (hE1.trans hE2).trans hE3
    refine (hdg.out _ (HL.out.ext hE)).mono ?_
    rintro e w5 ⟨rfl, hE5⟩
    go_wp2_with fail
    go_ret
    exact ⟨rfl, hE.trans hE5⟩
theorem wLcm_any {a b : Int} (ha : a ≠ 0) (hb : b ≠ 0) (hab : nd a + nd b < LIM) {w : World} (hL : Laid w) :
    Calls Tryz.prog 49 #[I a, I b] w fun e w' => e = .returned (I (Nat.lcm a.natAbs b.natAbs : Nat)) ∧ Ext w w' := by
  have HL := Lib.hid hL
  have h1 := Lib.hid (Abs_any (z := a) (by omega))
  have h2 := Lib.hid (Abs_any (z := b) (by omega))
  have hl := Lib.hid (fun w hL => dLcm_any (u := a.natAbs) (v := b.natAbs) (w := w) (by omega) (by omega) hab hL)
  rw [I_nat]
  rw [I_nat] at h1 h2
  clear hL ha hb hab
  generalize a.natAbs = u at *
  generalize b.natAbs = v at *
  go_enter Tryz.func49, Tryz.ntmps49
  go_wp2_with fail
  refine (h1.out _).mono ?_
  rintro e w1 ⟨rfl, hE1⟩
  go_wp2_with fail
  refine (h2.out _).mono ?_
  rintro e w2 ⟨rfl, hE2⟩
  go_wp2_with fail
  refine (hl.out _ (HL.out.ext (hE1.trans hE2))).mono ?_
  rintro e w3 ⟨rfl, hE3⟩
  go_wp2_with fail
  go_ret
  exact ⟨rfl, (hE1.trans hE2).trans hE3⟩
end Go.Proofs.YtokjolmpdfmnbaaGreatDoor
