/- Part 13 of the proof of the claim: contracts of the functions that it reaches, and plain laws; no condition. -/
import Derived.Test.YtcklioolpicmcaaGreatDoorV12
import Derived.Test.YtcklioolpicmcaaGreatDoorV11
import Derived.Test.YtcklioolpicmcaaGreatDoorV03
namespace Go.Proofs.YtcklioolpicmcaaGreatDoor
open Go.RowKit Go.Sort
set_option maxRecDepth 100000 in
set_option maxHeartbeats 2000000 in
theorem stake_any {w0 w : World} {ga ca gb ob cb : Nat} {sb : Option Addr} {k : Int} {a b : List Int} (hO : OwnV 108 w0.heap.size w ga ca (ss a)) (hB : Sl w sb gb ob (ss b)) (hne : gb ≠ ga)
    (hlen : b.length = a.length) (hl : a.length ≤ 1000000)
    (hbig : ∀ (i : Nat) (h : i < b.length) (h' : i < a.length), nd a[i] < LIM ∧ nd (k * b[i]) < LIM ∧ nd k + nd b[i] ≤ LIM) (hL : Laid w0) (hE0 : Ext w0 w) :
    Calls Tryz.prog 117 #[slv ga a.length ca, .slice sb a.length cb, I k] w fun e w' => e = .returned (.tuple #[]) ∧ OwnV 108 w0.heap.size w' ga ca (ss (subK k a b)) ∧ w.grownBy w' (some ga) := by
  have hkz : (Lib.itoa k == [48]) = decide (k = 0) := itoa_eq_zero k
  by_cases hk0 : k = 0
  · rw [decide_eq_true hk0] at hkz
    subst hk0
    rw [subK_zero a b (by omega)]
    clear hbig hL hlen hl hB
    go_enter Tryz.func117, Tryz.ntmps117
    go_wp2_with fail
    refine bodyPost_ret (results_none rfl _ _ _) rfl ?_
    exact ⟨rfl, hO, World.grownBy.refl _ _⟩
  · rw [decide_eq_false hk0] at hkz
    have HL := Lib.hid hL
    have HB := Lib.hid hB
    have Hbig := Lib.hid hbig
    have Hlen := Lib.hid hlen
    clear hL hB hbig hk0 hlen
    go_enter Tryz.func117, Tryz.ntmps117
    go_wp2_with fail
    go_loopw [11] (fun idx wr => ∃ i : Nat, i ≤ a.length ∧ idx = .int .i64 i ∧ OwnV 108 w0.heap.size wr ga ca (ss (subK k a (b.take i))) ∧ w.grownBy wr (some ga)) (fun idx _ => a.length - (intOf idx).toNat)
    case atStart => exact ⟨0, by omega, by go_num, by simpa [subK_nil] using hO, World.grownBy.refl _ _⟩
    case round =>
      obtain ⟨i, hi, rfl, hOr, hG⟩ := hrel
      have hga := hO.lt.1
      by_cases hlt : i < a.length
      · have hib : i < b.length := by rw [Hlen.out]; exact hlt
        obtain ⟨x, hx⟩ : ∃ x, x = a[i] := ⟨_, rfl⟩
        obtain ⟨y, hy⟩ : ∃ y, y = b[i] := ⟨_, rfl⟩
        obtain rfl := HB.out.addr (by simpa using (by omega : 0 < b.length))
        have cb : wr.cell? ⟨gb, ob + i, none⟩ = some (I y) := by
          refine grown_frozen_cell hG hne ?_
          rw [hy]
          exact HB.out.cell i _ (by simp [ss, hib])
        have ca' : wr.cell? ⟨ga, i, none⟩ = some (I x) := by
          rw [hOr.cell (by simpa using hlt)]
          simp only [ss, List.getElem_map]
          rw [subK_get k a _ i hlt (by rw [List.length_take]; omega), hx]
        have fa := hOr.frozen i
        have hEr : Ext w0 wr := ext_trans_grown hE0 hG hga
        have hstep := subK_step k a b i hib hlt
        rw [← hx, ← hy] at hstep
        have Hstep := Lib.hid hstep
        obtain ⟨n1, n2, n3⟩ := Hbig.out i hib hlt
        rw [← hx] at n1
        rw [← hy] at n2 n3
        have hii : (i : Int) < (a.length : Int) := by omega
        have hEr2 := Lib.hid hEr
        have c1 := Lib.hid (quietC (w := wr) (fun W h => Mul_any (a := k) (b := y) (w := W) n3 (HL.out.ext (hEr2.out.trans h))))
        have c2 := Lib.hid (quietC (w := wr) (fun W h => Sub_any (a := x) (b := k * y) (w := W) n1 n2 (HL.out.ext (hEr2.out.trans h))))
        have k1 := cell_regrown ca'
        have k2 := cell_regrown cb
        clear hx hy hstep n1 n2 n3 hO hEr hib
        go_wp2_with fail
        refine wp_region_quiet_tail 13 (by kernel_rfl) (by kernel_rfl) ?_
        simp only [List.take_succ_cons, List.take_zero, List.drop_succ_cons, List.drop_zero]
        repeat (quiet_step (first | exact c1.out _ _ | exact c2.out _ _))
        refine wpQuiet_nil ?_
        intro _ hw'
        obtain ⟨⟨dq, osq⟩, hw''⟩ := hw'
        subst hw''
        have hE5 := ext_regrown wr dq osq
        have hO5 := hOr.ext hE5
        have d5 := hE5.cell ca'
        clear c1 c2 k1 k2
        generalize grow (redrawn wr dq) osq = w5 at *
        have f5 := hO5.frozen i
        obtain ⟨hO6, hG6⟩ := hO5.set i (I (x - k * y))
        rw [← ss_set, ← Hstep.out] at hO6
        have hG5 := grown_trans hG (grown_trans (grown_ext hE5 (some ga)) hG6)
        clear hE5 hO5 hG6
        go_wp2_with fail
        go_roundw
        case rel => exact ⟨i + 1, by omega, by go_num, hO6, hG5⟩
        case measure => simp [intOf] <;> omega
      · go_wp2_with fail
        go_end0
        refine ⟨rfl, ?_, hG⟩
        rw [List.take_of_length_le (by rw [Hlen.out]; omega)] at hOr
        exact hOr
def negF (o j : Nat) (l : List Int) : List Int := l.take o ++ negTo j (l.drop o)
@[simp] theorem negF_length (o j : Nat) (l : List Int) : (negF o j l).length = l.length := by simp [negF]; omega
theorem negF_zero (o : Nat) (l : List Int) : negF o 0 l = l := by rw [negF, negTo_zero, List.take_append_drop]
theorem negF_get {o j n : Nat} {l : List Int} (hl : l.length = o + n) (h : j < n) : (negF o j l)[o + j]'(by simp; omega) = l[o + j] := by
  unfold negF
  rw [List.getElem_append_right (by simp; omega)]
  have e : (List.take o l).length = o := by simp; omega
  simp only [e, Nat.add_sub_cancel_left]
  rw [negTo_get (by simp; omega), List.getElem_drop]
theorem negF_step {o j n : Nat} {l : List Int} (hl : l.length = o + n) (h : j < n) : negF o (j + 1) l = (negF o j l).set (o + j) (-l[o + j]) := by
  unfold negF
  have e : (List.take o l).length = o := by simp; omega
  rw [List.set_append_right _ _ (by omega), e, Nat.add_sub_cancel_left, negTo_step (by simp; omega), List.getElem_drop]
theorem negF_all {o n : Nat} {l : List Int} (hl : l.length = o + n) : negF o n l = l.take o ++ (l.drop o).map (fun z => -z) := by
  unfold negF
  rw [show n = (l.drop o).length by simp; omega, negTo_all]
set_option maxRecDepth 100000 in
set_option maxHeartbeats 2000000 in
theorem sturn_part {B : Nat} {w : World} {gx cx o n cp : Nat} {a : List Int} (hX : OwnV 108 B w gx cx (ss a)) (hn : a.length = o + n) (hl : n ≤ 1000000) (hbig : ∀ z ∈ a, nd z ≤ LIM) :
    Calls Tryz.prog 67 #[.slice (some ⟨gx, o, none⟩) n cp] w fun e w' => e = .returned (.tuple #[]) ∧ OwnV 108 B w' gx cx (ss (a.take o ++ (a.drop o).map fun z => -z)) ∧ w.grownBy w' (some gx) := by
  have Hb := Lib.hid hbig
  have Hn := Lib.hid hn
  clear hbig hn
  go_enter Tryz.func67, Tryz.ntmps67
  go_wp2_with fail
  go_loopw [5] (fun jdx wi => ∃ j : Nat, j ≤ n ∧ jdx = .int .i64 j ∧ OwnV 108 B wi gx cx (ss (negF o j a)) ∧ w.grownBy wi (some gx)) (fun jdx _ => n - (intOf jdx).toNat)
  case atStart => exact ⟨0, by omega, by go_num, by rw [negF_zero]; exact hX, World.grownBy.refl _ _⟩
  case round =>
    obtain ⟨j, hj, rfl, hOj, hG⟩ := hrel
    by_cases hlt : j < n
    · have hjl : o + j < a.length := by rw [Hn.out]; omega
      obtain ⟨x, hx⟩ : ∃ x, x = a[o + j] := ⟨_, rfl⟩
      have cj : wr.cell? ⟨gx, o + j, none⟩ = some (I x) := by
        rw [hOj.cell (by simpa using hjl)]
        simp only [ss, List.getElem_map]
        rw [negF_get Hn.out hlt, hx]
      have hneg := Lib.hid (Neg_any (z := x) (Hb.out x (by rw [hx]; exact List.getElem_mem hjl)))
      have Hst := Lib.hid (negF_step Hn.out hlt)
      rw [← hx] at Hst
      have hjj : (j : Int) < (n : Int) := by omega
      clear hx hX hjl
      go_wp2_with fail
      refine (hneg.out _).mono ?_
      rintro e w5 ⟨rfl, hE5⟩
      have f5 := (hOj.ext hE5).frozen (o + j)
      have d5 := hE5.cell cj
      obtain ⟨hO6, hG6⟩ := (hOj.ext hE5).set (o + j) (I (-x))
      rw [← ss_set, ← Hst.out] at hO6
      have hG7 := grown_trans hG (grown_trans (grown_ext hE5 (some gx)) hG6)
      clear hE5 hOj hG6 hG
      go_wp2_with fail
      go_roundw
      case rel => exact ⟨j + 1, by omega, by go_num, hO6, hG7⟩
      case measure => simp [intOf] <;> omega
    · have hje : j = n := by omega
      subst hje
      rw [negF_all Hn.out] at hOj
      go_wp2_with fail
      go_end0
      exact ⟨rfl, hOj, hG⟩
theorem sturn_row {B : Nat} {w : World} {gx cx n : Nat} {a : List Int} (hX : OwnV 108 B w gx cx (ss a)) (hn : a.length = n) (hl : n ≤ 1000000) (hbig : ∀ z ∈ a, nd z ≤ LIM) :
    Calls Tryz.prog 67 #[slv gx n cx] w fun e w' => e = .returned (.tuple #[]) ∧ OwnV 108 B w' gx cx (ss (a.map fun z => -z)) ∧ w.grownBy w' (some gx) := by
  have := sturn_part (o := 0) (cp := cx) hX (by omega) hl hbig
  simpa using this
end Go.Proofs.YtcklioolpicmcaaGreatDoor
namespace Go.Proofs.YtcklioolpicmcaaGreatDoor
open Go.RowKit Go.Sort
set_option maxRecDepth 100000 in
set_option maxHeartbeats 1000000 in
theorem index_slead {w : World} {sa : Option Addr} {gb go cap : Nat} {vs : List Value} {p : Nat → Bool} {k : Int} (hS : Sl w sa gb go vs) (hl : vs.length ≤ 1000000)
    (hF : ∀ i (h : i < vs.length) W, Ext w W → Calls Tryz.prog 114 #[vs[i]] W fun e w' => e = .returned (.bool (p i)) ∧ Ext W w') (hk : IxR p vs.length k) :
    Calls Tryz.prog 113 #[.slice sa vs.length cap, .func (.func 114) #[] #[]] w fun e w' => e = .returned (.int .i64 k) ∧ Ext w w' := by
  have HF := Lib.hid hF
  have HK := Lib.hid hk
  have HS := Lib.hid hS
  clear hF hk hS
  go_enter Tryz.func113, Tryz.ntmps113
  go_wp2_with fail
  go_loopw [8] (fun idx wr => ∃ i : Nat, i ≤ vs.length ∧ idx = .int .i64 i ∧ Hid (∀ j, j < i → p j = false) ∧ Ext w wr) (fun idx _ => vs.length - (intOf idx).toNat)
  case atStart => exact ⟨0, by omega, by go_num, Lib.hid (fun j h => by omega), Ext.refl _⟩
  case round =>
    obtain ⟨i, hi, rfl, Hp, hE⟩ := hrel
    generalize wr = X at *
    by_cases hlt : i < vs.length
    · have hii : (i : Int) < (vs.length : Int) := by omega
      obtain ⟨u, hu⟩ : ∃ u, u = vs[i] := ⟨_, rfl⟩
      have hc := hE.cell (HS.out.cell i u (by rw [hu]; exact List.getElem?_eq_getElem hlt))
      obtain rfl := HS.out.addr (by omega)
      have hf := HF.out i hlt X hE
      rw [← hu] at hf
      have Hf := Lib.hid hf
      clear hf hu
      cases hpi : p i
      · rw [hpi] at Hf
        have Hpi := Lib.hid hpi
        clear hpi
        go_wp2_with fail
        refine Hf.out.mono ?_
        rintro e W ⟨rfl, hE2⟩
        go_wp2_with fail
        go_roundw
        case rel => exact ⟨i + 1, by omega, by go_num, Lib.hid (fun j hj => by
          by_cases e : j = i
          · subst e; exact Hpi.out
          · exact Hp.out j (by omega)), hE.trans hE2⟩
        case measure => simp [intOf] <;> omega
      · rw [hpi] at Hf
        have Hki := Lib.hid (IxR_at HK.out hlt hpi Hp.out)
        clear hpi
        go_wp2_with fail
        refine Hf.out.mono ?_
        rintro e W ⟨rfl, hE2⟩
        go_wp2_with fail
        go_ret
        exact ⟨by rw [Hki.out]; rfl, hE.trans hE2⟩
    · have Hki := Lib.hid (IxR_no HK.out (fun j hj => Hp.out j (by omega)))
      go_wp2_with fail
      go_ret
      exact ⟨by rw [Hki.out]; rfl, hE⟩
end Go.Proofs.YtcklioolpicmcaaGreatDoor
namespace Go.Proofs.YtcklioolpicmcaaGreatDoor
open Go.RowKit Go.Sort
theorem sleadC_any (z : Int) (w : World) : Calls Tryz.prog 114 #[I z] w fun e w' => e = .returned (.bool (decide (z ≠ 0))) ∧ Ext w w' := by
  have hitz : (Lib.itoa z == [48]) = decide (z = 0) := itoa_eq_zero z
  by_cases h : z = 0
  · rw [decide_eq_true h] at hitz
    have hb : decide (z ≠ 0) = false := decide_eq_false (by simpa using h)
    rw [hb]
    clear h hb
    go_enter Tryz.func114, Tryz.ntmps114
    go_wp2
    go_ret
    exact ⟨rfl, Ext.refl _⟩
  · rw [decide_eq_false h] at hitz
    have hb : decide (z ≠ 0) = true := decide_eq_true h
    rw [hb]
    have hitz2 : (Lib.itoa z != [48]) = true := by simp [bne, hitz]
    clear h hb
    go_enter Tryz.func114, Tryz.ntmps114
    go_wp2
    go_ret
    exact ⟨rfl, Ext.refl _⟩
theorem slead_any {w : World} {sa : Option Addr} {gb go cap : Nat} {l : List Int} (hS : Sl w sa gb go (ss l)) (hl : l.length ≤ 1000000) :
    Calls Tryz.prog 65 #[.slice sa l.length cap] w fun e w' => e = .returned (.int .i64 (pv l : Nat)) ∧ Ext w w' := by
  have hix := index_slead (cap := cap) (p := fun j => decide (l.getD j 0 ≠ 0)) (k := pvI l) (w := w) hS (by rw [ss_length]; exact hl) (fun j hj W hW => by
    have hj' : j < l.length := by simpa using hj
    have e : (ss l)[j] = I (l.getD j 0) := by rw [getD_get hj']; simp [ss]
    rw [e]; exact sleadC_any _ W) (by rw [ss_length]; exact pvI_ix l)
  rw [ss_length] at hix
  have Hix := Lib.hid hix
  clear hix hS
  by_cases h : pv l < l.length
  · have e : pvI l = (pv l : Int) := by unfold pvI; rw [if_pos h]
    rw [e] at Hix
    clear e h
    generalize pv l = p at *
    go_enter Tryz.func65, Tryz.ntmps65
    go_wp2_with fail
    refine Hix.out.mono ?_
    rintro e w1 ⟨rfl, hE1⟩
    go_wp2_with fail
    go_ret
    exact ⟨rfl, hE1⟩
  · have e : pvI l = -1 := by unfold pvI; rw [if_neg h]
    have e2 : pv l = l.length := by have := pv_le l; omega
    rw [e] at Hix
    rw [e2]
    clear e h e2
    go_enter Tryz.func65, Tryz.ntmps65
    go_wp2_with fail
    refine Hix.out.mono ?_
    rintro e w1 ⟨rfl, hE1⟩
    go_wp2_with fail
    go_ret
    exact ⟨rfl, hE1⟩
theorem GrX.lt {B : Nat} {w : World} {v : Value} {F : Mx} {ad : List (Nat × Nat)} (h : GrX B w v F ad) : ∀ i (_ : i < ad.length) (_ : i < F.length), 0 < F[i].length → B ≤ ad[i].1 ∧ ad[i].1 < w.heap.size :=
  fun i a b c => (h.row i b a c).lt
theorem IntsV.xv {B : Nat} {w : World} {v : Value} {l : List Int} (h : IntsV B w v l) (h0 : l.length = 0 → v = .slice none 0 0) : ∃ g c, v = xv l.length g c ∧ (0 < l.length → OwnV 108 B w g c (ss l)) := by
  rcases Nat.eq_zero_or_pos l.length with e | e
  · exact ⟨0, 0, by rw [h0 e, e, xv_zero], fun h => by omega⟩
  · rcases h.2 with ⟨rfl, h1⟩ | ⟨g, cap, cur, rfl, hb, hg, hn, hm, hs, ht⟩
    · omega
    · refine ⟨g, cap, by rw [xv_pos e], fun _ => ?_⟩
      unfold OwnV; rw [ss_length]; exact h
set_option maxRecDepth 100000 in
set_option maxHeartbeats 1000000 in
theorem sbig_any {w : World} {v : Value} {M : Mx} (hM : MatR w v M) (hl : M.length ≤ 1000000) (hn : ∀ r ∈ M, r.length ≤ 1000000) (h64 : ∀ r ∈ M, ∀ z ∈ r, I64 z) (hL : Laid w) :
    Calls Tryz.prog 63 #[v] w fun e w' => ∃ v' ad, e = .returned v' ∧ GrX w.heap.size w' v' M ad ∧ Ext w w' := by
  obtain ⟨sa, gb, go, cap, vs, rfl, hcap, hvl, hS, hr⟩ := hM
  have HS := Lib.hid hS
  have HV := Lib.hid hvl
  have HR := Lib.hid hr
  have HN := Lib.hid hn
  have H64 := Lib.hid h64
  have HL := Lib.hid hL
  clear hS hvl hr hn h64 hL
  go_enter Tryz.func63, Tryz.ntmps63
  go_wp2_with fail
  go_loopw [3, 11] (fun out idx wr => ∃ (i : Nat) (ad : List (Nat × Nat)), i ≤ M.length ∧ idx = .int .i64 i ∧ Hid (GrX w.heap.size wr out (M.take i) ad) ∧ Ext w wr) (fun _ idx _ => M.length - (intOf idx).toNat)
  case atStart => exact ⟨0, [], by omega, by go_num, Lib.hid (GrX.nil _ _), Ext.refl _⟩
  case round =>
    obtain ⟨i, ad, hi', rfl, hV, hE⟩ := hrel
    generalize wr = X at *
    by_cases hlt : i < M.length
    · have hii : (i : Int) < (M.length : Int) := by omega
      obtain rfl := HS.out.addr (by rw [HV.out]; omega)
      obtain ⟨sr, br, or, cr, hrow, hrc, hSr⟩ := MatR.row HS.out HV.out HR.out hlt
      obtain ⟨r, hr⟩ : ∃ r, r = M[i] := ⟨_, rfl⟩
      have Hr64 := Lib.hid (H64.out _ (List.getElem_mem hlt))
      have hrn := HN.out _ (List.getElem_mem hlt)
      have Hsn := Lib.hid (take_snocM hlt)
      rw [← hr] at hrow hrc hSr Hr64 hrn Hsn
      have hrow' := hE.cell hrow
      have HSr := Lib.hid (hSr.ext hE)
      have Hil := Lib.hid (show (M.take i).length = i by rw [List.length_take]; omega)
      have Hlt := Lib.hid hV.out.lt
      have hXw := hE.size
      clear hrow hSr hr
      go_wp2_with fail
      go_loopw [6, 17] (fun lv jdx wr => ∃ j : Nat, j ≤ r.length ∧ jdx = .int .i64 j ∧ Hid (IntsV X.heap.size wr lv (r.take j)) ∧ Hid (j = 0 → lv = .slice none 0 0) ∧ Ext X wr) (fun _ jdx _ => r.length - (intOf jdx).toNat)
      case atStart => exact ⟨0, by omega, by go_num, Lib.hid (IntsV.nil _ _), Lib.hid (fun _ => rfl), Ext.refl _⟩
      case round =>
        obtain ⟨j, hj, rfl, hO, h0, hE2⟩ := hrel
        generalize wr = Y at *
        by_cases hjl : j < r.length
        · have hji : (j : Int) < (r.length : Int) := by omega
          obtain ⟨z, hz⟩ : ∃ z, z = r[j] := ⟨_, rfl⟩
          have hcz := hE2.cell (HSr.out.cell j (.int .i64 z) (by rw [hz]; exact is_get hjl))
          obtain rfl := HSr.out.addr (by simp; omega)
          have hz64 := Hr64.out z (by rw [hz]; exact List.getElem_mem hjl)
          have hof := Lib.hid (wholeOf_any (n := z) (w := Y) hz64.1 hz64.2 (HL.out.ext (hE.trans hE2)))
          have Hjl := Lib.hid (show (r.take j).length = j by rw [List.length_take]; omega)
          have Hsj := Lib.hid (show r.take (j + 1) = r.take j ++ [z] by rw [List.take_succ_eq_append_getElem hjl, hz])
          have hXY := hE2.size
          clear hz hz64
          go_wp2_with (first
            | (go_at_call 111; refine hof.out.mono ?_; rintro e W ⟨rfl, hW⟩; have hYW := hW.size)
            | (at_builtin; refine app_ints rfl _ _ rfl rfl ((hO.out.ext hW).ext ((Ext.refl _).alloc _)) rfl (b := W.heap.size) (z := z) (by go_simp) (by rw [Hjl.out]; omega) (by simp; omega) ?_; intro gg cap2 w8 hO8 hB8 hG8; rw [Hjl.out] at hO8 ⊢; rw [← Hsj.out] at hO8))
          have hE8 : Ext X w8 := Below.trans ((hE2.trans hW).alloc (.cells #[I z] 108)) hB8
          have HO8 := Lib.hid hO8
          clear hG8 hB8 hO8
          go_wp2_with fail
          go_roundw
          case rel => exact ⟨j + 1, by omega, by go_num, HO8, Lib.hid (fun h => by omega), hE8⟩
          case measure => simp [intOf] <;> omega
        · have hje : j = r.length := by omega
          have htk : r.take j = r := List.take_of_length_le (by omega)
          rw [htk] at hO
          obtain ⟨g0, c0, hxv, hO0⟩ := hO.out.xv (fun h => h0.out (by omega))
          have HO0 := Lib.hid hO0
          subst hxv
          obtain ⟨xa, xl, xk, hxv⟩ := xv_slice r.length g0 c0
          have Hxv := Lib.hid hxv
          rw [hxv]
          have hXY := hE2.size
          have Hne := Lib.hid (show 0 < r.length → ∀ i (h : i < ad.length) (h' : i < (M.take _).length), 0 < (M.take _)[i].length → ad[i].1 ≠ g0 from fun h i a b c => by
            have h1 := (HO0.out h).lt.1
            have h2 := (Hlt.out i a b c).2
            omega)
          clear hO0 hxv hje htk h0 hO
          go_wp2_with (at_builtin; refine app_grid rfl _ _ rfl (B := w.heap.size) rfl ((hV.out.ext hE2).ext ((Ext.refl _).alloc _)) rfl (b := Y.heap.size) (r := r) (g0 := g0) (c0 := c0) (by rw [Hxv.out]; go_simp) (fun h => ((HO0.out h).mono hXw).ext ((Ext.refl _).alloc _)) Hne.out (by rw [Hil.out]; omega) (by simp; omega) ?_; intro gg cap2 w8 hO8 hB8 hG8; rw [Hil.out, ← Hsn.out] at hO8; rw [Hil.out])
          have hE8 : Ext w w8 := Below.trans ((hE.trans hE2).alloc (.cells #[.slice xa xl xk] 105)) hB8
          have HO8 := Lib.hid hO8
          clear hG8 hB8 hO8
          go_wp2_with fail
          go_roundw
          case rel => exact ⟨i + 1, _, by omega, by go_num, HO8, hE8⟩
          case measure => simp [intOf] <;> omega
    · have hie : i = M.length := by omega
      subst hie
      go_wp2_with fail
      go_ret
      have := hV.out
      rw [List.take_length] at this
      exact ⟨_, ad, rfl, this, hE⟩
end Go.Proofs.YtcklioolpicmcaaGreatDoor
namespace Go.Proofs.YtcklioolpicmcaaGreatDoor
def rowSub (i t : Nat) (q : Int) (A : Mx) : Mx := A.set i (subK q (A.getD i []) (A.getD t []))
def colSub (i o : Nat) (q : Int) (A : Mx) : Mx := A.map fun l => l.set i (l.getD i 0 - q * l.getD o 0)
def rowSwap (i j : Nat) (A : Mx) : Mx := (A.set i (A.getD j [])).set j (A.getD i [])
def swapL (i j : Nat) (l : List Int) : List Int := (l.set i (l.getD j 0)).set j (l.getD i 0)
def colSwap (i j : Nat) (A : Mx) : Mx := A.map (swapL i j)
def rowNeg (i : Nat) (A : Mx) : Mx := A.set i ((A.getD i []).map fun z => -z)
def betB (A : Mx) (b : Option (Nat × Nat)) (i k : Nat) : Option (Nat × Nat) :=
  if eM A i k = 0 then b else match b with
    | none => some (i, k)
    | some p => if (eM A i k).natAbs < (eM A p.1 p.2).natAbs then some (i, k) else b
def bestRow (A : Mx) (i t : Nat) (b : Option (Nat × Nat)) : Nat → Option (Nat × Nat)
  | 0 => b
  | k + 1 => betB A (bestRow A i t b k) i (t + k)
def bestAll (A : Mx) (t w : Nat) : Nat → Option (Nat × Nat)
  | 0 => none
  | i + 1 => bestRow A (t + i) t (bestAll A t w i) w
structure Dg where
  a : Mx
  l : Mx
  r : Mx
  deriving Inhabited
def swapD (t i k : Nat) (s : Dg) : Dg := ⟨colSwap t k (rowSwap t i s.a), rowSwap t i s.l, colSwap t k s.r⟩
def rowStep (t i : Nat) (s : Dg) : Dg := ⟨rowSub i t ((eM s.a i t).fdiv (eM s.a t t)) s.a, rowSub i t ((eM s.a i t).fdiv (eM s.a t t)) s.l, s.r⟩
def rowsTo (t : Nat) : Nat → Dg → Dg
  | 0, s => s
  | j + 1, s => rowStep t (t + 1 + j) (rowsTo t j s)
def rowsOk (t : Nat) : Nat → Dg → Bool
  | 0, _ => true
  | j + 1, s => rowsOk t j s && decide ((eM (rowsTo t j s).a (t + 1 + j) t).fmod (eM (rowsTo t j s).a t t) = 0)
def colStep (t k : Nat) (s : Dg) : Dg := ⟨colSub k t ((eM s.a t k).fdiv (eM s.a t t)) s.a, s.l, colSub k t ((eM s.a t k).fdiv (eM s.a t t)) s.r⟩
def colsTo (t : Nat) : Nat → Dg → Dg
  | 0, s => s
  | j + 1, s => colStep t (t + 1 + j) (colsTo t j s)
def colsOk (t : Nat) : Nat → Dg → Bool
  | 0, _ => true
  | j + 1, s => colsOk t j s && decide ((eM (colsTo t j s).a t (t + 1 + j)).fmod (eM (colsTo t j s).a t t) = 0)
def clearD (n c t : Nat) (s : Dg) : Dg := colsTo t (c - (t + 1)) (rowsTo t (n - (t + 1)) s)
def clearOk (n c t : Nat) (s : Dg) : Bool := rowsOk t (n - (t + 1)) s && colsOk t (c - (t + 1)) (rowsTo t (n - (t + 1)) s)
def badRow (A : Mx) (t i : Nat) : Nat → Bool
  | 0 => false
  | k + 1 => badRow A t i k || decide ((eM A i (t + 1 + k)).fmod (eM A t t) ≠ 0)
def spoil (A : Mx) (t w : Nat) : Nat → Option Nat
  | 0 => none
  | j + 1 => match spoil A t w j with
    | some x => some x
    | none => if badRow A t (t + 1 + j) w then some (t + 1 + j) else none
def addD (t i : Nat) (s : Dg) : Dg := ⟨rowSub t i (-1) s.a, rowSub t i (-1) s.l, s.r⟩
def posD (t : Nat) (s : Dg) : Dg := if eM s.a t t < 0 then ⟨rowNeg t s.a, rowNeg t s.l, s.r⟩ else s
def stepD (n c t : Nat) (s : Dg) : Option (Nat × Dg) :=
  match bestAll s.a t (c - t) (n - t) with
  | none => none
  | some (i, k) =>
    if clearOk n c t (swapD t i k s) then
      match spoil (clearD n c t (swapD t i k s)).a t (c - (t + 1)) (n - (t + 1)) with
      | some j => some (t, addD t j (clearD n c t (swapD t i k s)))
      | none => some (t + 1, posD t (clearD n c t (swapD t i k s)))
    else some (t, clearD n c t (swapD t i k s))
def bddM (E : Nat) (A : Mx) : Bool := A.all fun l => l.all fun z => decide (z.natAbs < 2 ^ E)
def bddD (E : Nat) (s : Dg) : Bool := bddM E s.a && bddM E s.l && bddM E s.r
def runD (E n c : Nat) : Nat → Nat → Dg → Option (Nat × Dg)
  | 0, _, _ => none
  | f + 1, t, s => if bddD E s then match stepD n c t s with
      | none => some (t, s)
      | some p => runD E n c f p.1 p.2
    else none
def unitM (n : Nat) : Mx := (List.range n).map fun i => unitR n i
def startD (M : Mx) (c : Nat) : Dg := ⟨M, unitM M.length, unitM c⟩
example : (runD 64 2 2 10 0 (startD [[-3, 2], [-1, 1]] 2)).map (fun p => (p.1, p.2.a)) = some (2, [[1, 0], [0, 1]]) := by decide
end Go.Proofs.YtcklioolpicmcaaGreatDoor
namespace Go.Proofs.YtcklioolpicmcaaGreatDoor
open Go.RowKit Go.Sort
@[simp] theorem unitM_length (n : Nat) : (unitM n).length = n := by simp [unitM]
theorem unitM_get {n i : Nat} (h : i < (unitM n).length) : (unitM n)[i] = unitR n i := by simp [unitM]
theorem unitM_rect (n : Nat) : Rect n (unitM n) := fun r hr => by
  obtain ⟨i, hi, rfl⟩ := List.getElem_of_mem hr
  rw [unitM_get]; simp [unitR]
set_option maxRecDepth 100000 in
set_option maxHeartbeats 1000000 in
theorem sunit_any {w : World} {n : Nat} (hn : n ≤ 1000000) :
    Calls Tryz.prog 110 #[.int .i64 n] w fun e w' => ∃ v' ad, e = .returned v' ∧ GrX w.heap.size w' v' (unitM n) ad ∧ Ext w w' := by
  go_enter Tryz.func110, Tryz.ntmps110
  go_wp2_with fail
  go_loopw [3, 7] (fun out idx wr => ∃ (i : Nat) (ad : List (Nat × Nat)), i ≤ n ∧ idx = .int .i64 i ∧ Hid (GrX w.heap.size wr out ((unitM n).take i) ad) ∧ Ext w wr) (fun _ idx _ => n - (intOf idx).toNat)
  case atStart => exact ⟨0, [], by omega, by go_num, Lib.hid (GrX.nil _ _), Ext.refl _⟩
  case round =>
    obtain ⟨i, ad, hi', rfl, hV, hE⟩ := hrel
    generalize wr = X at *
    by_cases hlt : i < n
    · have hii : (i : Int) < (n : Int) := by omega
      have Hsn := Lib.hid (show (unitM n).take (i + 1) = (unitM n).take i ++ [unitR n i] by rw [take_snocM (by simpa using hlt), unitM_get])
      have Hil := Lib.hid (show ((unitM n).take i).length = i by rw [List.length_take, unitM_length]; omega)
      have Hlt := Lib.hid hV.out.lt
      have hXw := hE.size
      have hrep := Lib.hid (fun W (hW : W.cell? ⟨X.heap.size, 0, none⟩ = some (I 0)) => repeat_any (m := n) hn (b := X.heap.size) (o := 0) (c := 1) (z := 0) (w := W) hW)
      go_wp2_with fail
      have hz1 : I 0 = .string ⟨#[48]⟩ := by unfold I S; rw [itoa_zero]
      have hz49 : I 1 = .string ⟨#[49]⟩ := by unfold I S; rw [show (1 : Int) = ((1 : Nat) : Int) from rfl, itoa_nat, Lib.decDigits]; rfl
      have Hz49 := Lib.hid hz49
      refine (hrep.out _ (by rw [hz1]; go_simp)).mono ?_
      rintro e W1 ⟨gy, cy, rfl, hY, hE1⟩
      clear hrep hz1 hz49
      have hE2 := ((Ext.refl X).alloc (.cells #[.string ⟨#[48]⟩] 108)).trans hE1
      have hYb : X.heap.size < gy := by have := hY.lt.1; simp at this; omega
      have y1 := hY.cell (j := i) (by simpa using hlt)
      have y2 := hY.frozen i
      obtain ⟨hY3, hG3⟩ := hY.set i (I 1)
      rw [← ss_set, Hz49.out] at hY3
      rw [Hz49.out] at hG3
      have hE3 := ext_trans_grown hE2 hG3 (by omega)
      have HY := Lib.hid (show OwnV 108 X.heap.size (W1.setCell ⟨gy, i, none⟩ (.string ⟨#[49]⟩)) gy cy (ss (unitR n i)) from hY3.mono (by simp))
      have hYW := HY.out.lt
      clear hY hY3 hG3 hE1 hE2 Hz49
      have hnl : (unitR n i).length = n := by simp [unitR]
      have Hnl := Lib.hid hnl
      have Hne := Lib.hid (show 0 < (unitR n i).length → ∀ k (h : k < ad.length) (h' : k < ((unitM n).take i).length), 0 < ((unitM n).take i)[k].length → ad[k].1 ≠ gy from fun h k a b c => by
        have h2 := (Hlt.out k a b c).2
        omega)
      clear hnl
      have hsz := hE3.size
      go_wp2_with (at_builtin; refine app_grid rfl _ _ rfl (B := w.heap.size) rfl ((hV.out.ext hE3).ext ((Ext.refl _).alloc _)) rfl (b := W1.heap.size) (r := unitR n i) (g0 := gy) (c0 := cy) (by rw [Hnl.out, xv_pos (by omega)]; go_simp) (fun h => (HY.out.mono hXw).ext ((Ext.refl _).alloc _)) Hne.out (by rw [Hil.out]; omega) (by simp; have := hE3.size; simp at this; omega) ?_; intro gg cap2 w8 hO8 hB8 hG8; rw [Hil.out, ← Hsn.out] at hO8; rw [Hil.out])
      have hE8 : Ext w w8 := Below.trans ((hE.trans hE3).alloc (.cells #[slv gy n cy] 105)) hB8
      have HO8 := Lib.hid hO8
      clear hG8 hB8 hO8
      go_wp2_with fail
      go_roundw
      case rel => exact ⟨i + 1, _, by omega, by go_num, HO8, hE8⟩
      case measure => simp [intOf] <;> omega
    · have hie : i = n := by omega
      subst hie
      go_wp2_with fail
      go_ret
      have := hV.out
      rw [List.take_of_length_le (by simp)] at this
      exact ⟨_, ad, rfl, this, hE⟩
def SmaPost (w : World) (M : Mx) (e : Ending) (w' : World) : Prop :=
  (if smallM M then ∃ v, e = .returned (.tuple #[v, .int .i64 0]) ∧ MatO w.heap.size w' v M else e = .returned (.tuple #[.slice none 0 0, .int .i64 4])) ∧ Ext w w'
set_option maxRecDepth 100000 in
set_option maxHeartbeats 1000000 in
theorem ssmall_any {w : World} {v : Value} {M : Mx} (hM : GridR w v M) (hl : M.length ≤ 1000000) (hn : ∀ r ∈ M, r.length ≤ 1000000) (hb : ∀ r ∈ M, ∀ z ∈ r, nd z ≤ LIM) (hL : Laid w) :
    Calls Tryz.prog 68 #[v] w (SmaPost w M) := by
  obtain ⟨sa, gb, go, cap, vs, rfl, hcap, hvl, hS, hr⟩ := hM
  have HS := Lib.hid hS
  have HV := Lib.hid hvl
  have HR := Lib.hid hr
  have HN := Lib.hid hn
  have HB := Lib.hid hb
  have HL := Lib.hid hL
  clear hS hvl hr hn hb hL
  go_enter Tryz.func68, Tryz.ntmps68
  go_wp2_with fail
  go_loopw [4, 14] (fun out idx wr => ∃ i : Nat, i ≤ M.length ∧ idx = .int .i64 i ∧ Hid (MatO w.heap.size wr out (M.take i)) ∧ Hid (∀ j (h : j < M.length), j < i → smallB M[j] = true) ∧ Ext w wr) (fun _ idx _ => M.length - (intOf idx).toNat)
  case atStart => exact ⟨0, by omega, by go_num, Lib.hid (MatO.nil _ _), Lib.hid (fun j _ h => by omega), Ext.refl _⟩
  case round =>
    obtain ⟨i, hi', rfl, hV, Hs, hE⟩ := hrel
    generalize wr = X at *
    by_cases hlt : i < M.length
    · have hii : (i : Int) < (M.length : Int) := by omega
      obtain rfl := HS.out.addr (by rw [HV.out]; omega)
      obtain ⟨sr, br, or, cr, hrow, hrc, hSr⟩ := GridR.row HS.out HV.out HR.out hlt
      obtain ⟨r, hr⟩ : ∃ r, r = M[i] := ⟨_, rfl⟩
      have Hrb := Lib.hid (HB.out _ (List.getElem_mem hlt))
      have hrn := HN.out _ (List.getElem_mem hlt)
      have Hsn := Lib.hid (take_snocM hlt)
      have Hri := Lib.hid hr
      rw [← hr] at hrow hrc hSr Hrb hrn Hsn
      have hrow' := hE.cell hrow
      have HSr := Lib.hid (hSr.ext hE)
      have Hil := Lib.hid (show (M.take i).length = i by rw [List.length_take]; omega)
      have hXw := hE.size
      have hE0 := (Ext.refl X).alloc (.cells #[] 3)
      have HO0 := Lib.hid (row_empty (heap_new X (.cells #[] 3)) (Nat.le_refl X.heap.size))
      clear hrow hSr hr
      go_wp2_with fail
      go_loopw [7, 21] (fun lv jdx wr => ∃ j : Nat, j ≤ r.length ∧ jdx = .int .i64 j ∧ Hid (RowV X.heap.size wr lv (r.take j)) ∧ Hid (∀ t (h : t < r.length), t < j → grt r[t] = false) ∧ Ext X wr) (fun _ jdx _ => r.length - (intOf jdx).toNat)
      case atStart => exact ⟨0, by omega, by go_num, HO0, Lib.hid (fun j _ h => by omega), hE0⟩
      case round =>
        clear HO0 hE0
        obtain ⟨j, hj, rfl, hO, Hz, hE2⟩ := hrel
        generalize wr = Y at *
        by_cases hjl : j < r.length
        · have hji : (j : Int) < (r.length : Int) := by omega
          obtain ⟨z, hz⟩ : ∃ z, z = r[j] := ⟨_, rfl⟩
          have hcz := hE2.cell (HSr.out.cell j (I z) (by rw [hz]; simp [ss, hjl]))
          obtain rfl := HSr.out.addr (by simp; omega)
          have hsm := Lib.hid (wholeSmall_any (z := z) (w := Y) (Hrb.out z (by rw [hz]; exact List.getElem_mem hjl)) (HL.out.ext (hE.trans hE2)))
          have Hjl := Lib.hid (show (r.take j).length = j by rw [List.length_take]; omega)
          have Hsj := Lib.hid (show r.take (j + 1) = r.take j ++ [z] by rw [List.take_succ_eq_append_getElem hjl, hz])
          have Hzz := Lib.hid hz
          have hXY := hE2.size
          cases hgz : grt z
          · have hzb : -1000000000 ≤ z ∧ z ≤ 1000000000 := by
              unfold grt at hgz; have := of_decide_eq_false hgz; omega
            have hin : inI64 z = true := decide_eq_true (by omega)
            rw [hin, if_pos rfl] at hsm
            obtain ⟨hy1, hy2⟩ := hzb
            have Hgz := Lib.hid hgz
            clear hin hgz hz
            go_wp2_with (first
              | (go_at_call 119; refine hsm.out.mono ?_; rintro e W ⟨rfl, hW⟩; have hYW := hW.size)
              | (at_builtin; refine app_int rfl _ _ 32 Tryz.underlying32 rfl rfl ((hO.out.ext hW).ext ((Ext.refl _).alloc _)) rfl (b := W.heap.size) (z := z) (by go_simp) (by rw [Hjl.out]; omega) (by simp; omega) ?_; intro gg cap2 w8 hO8 hB8 hG8; rw [Hjl.out] at hO8 ⊢; rw [← Hsj.out] at hO8))
            have hE8 : Ext X w8 := Below.trans ((hE2.trans hW).alloc (.cells #[.int .i64 z] 3)) hB8
            have HO8 := Lib.hid hO8
            clear hG8 hB8 hO8
            go_wp2_with fail
            go_roundw
            case rel => exact ⟨j + 1, by omega, by go_num, HO8, Lib.hid (fun t h ht => by
              by_cases e : t = j
              · subst e; rw [← Hzz.out]; exact Hgz.out
              · exact Hz.out t h (by omega)), hE8⟩
            case measure => simp [intOf] <;> omega
          · have Hno := Lib.hid (smallM_not hlt (by rw [← Hri.out]; exact small_not hjl (by rw [← hz]; exact hgz)))
            have hzb : 1000000000 < z ∨ z < -1000000000 := by
              unfold grt at hgz; exact of_decide_eq_true hgz
            clear hgz hz
            have hfin : ∀ W, Ext w W → SmaPost w M (.returned (.tuple #[.slice none 0 0, .int .i64 4])) W := fun W hW => by
              unfold SmaPost; rw [if_neg (by rw [Hno.out]; decide)]; exact ⟨rfl, hW⟩
            have Hfin := Lib.hid hfin
            clear hfin
            cases hin : inI64 z
            · rw [hin, if_neg (by decide)] at hsm
              clear hin hzb
              go_wp2_with (first
                | (go_at_call 119; refine hsm.out.mono ?_; rintro e W ⟨rfl, hW⟩))
              go_ret2
              exact Hfin.out _ ((hE.trans hE2).trans hW)
            · rw [hin, if_pos rfl] at hsm
              clear hin
              rcases hzb with hzb | hzb
              · go_wp2_with (first
                  | (go_at_call 119; refine hsm.out.mono ?_; rintro e W ⟨rfl, hW⟩))
                go_ret2
                exact Hfin.out _ ((hE.trans hE2).trans hW)
              · have hzc : z ≤ 1000000000 := by omega
                go_wp2_with (first
                  | (go_at_call 119; refine hsm.out.mono ?_; rintro e W ⟨rfl, hW⟩))
                go_ret2
                exact Hfin.out _ ((hE.trans hE2).trans hW)
        · have hje : j = r.length := by omega
          have htk : r.take j = r := List.take_of_length_le (by omega)
          rw [htk] at hO
          have Hsb := Lib.hid (small_yes (l := r) (fun t ht => Hz.out t ht (by omega)))
          obtain ⟨xa, xl, xk, hxv⟩ : ∃ xa xl xk, u7 = .slice xa xl xk := by
            rcases hO.out.2 with ⟨rfl, h1⟩ | ⟨g, cap, cur, rfl, hb, hg, hn, hm, hs, ht⟩
            · exact ⟨_, _, _, rfl⟩
            · exact ⟨_, _, _, rfl⟩
          subst hxv
          have hXY := hE2.size
          clear htk Hz
          go_wp2_with (at_builtin; refine app_mat rfl _ _ rfl (B := w.heap.size) rfl ((hV.out.ext hE2).ext ((Ext.refl _).alloc _)) rfl (b := Y.heap.size) (rv := .slice xa xl xk) (r := r) (by go_simp) ((hO.out.mono hXw).ext ((Ext.refl _).alloc _)) (by rw [Hil.out]; omega) (by simp; omega) ?_; intro gg cap2 w8 hO8 hB8 hG8; rw [Hil.out, ← Hsn.out] at hO8; rw [Hil.out])
          have hE8 : Ext w w8 := Below.trans ((hE.trans hE2).alloc (.cells #[.slice xa xl xk] 32)) hB8
          have HO8 := Lib.hid hO8
          clear hG8 hB8 hO8
          go_wp2_with fail
          go_roundw
          case rel => exact ⟨i + 1, by omega, by go_num, HO8, Lib.hid (fun t h ht => by
            by_cases e : t = i
            · subst e; rw [← Hri.out]; exact Hsb.out
            · exact Hs.out t h (by omega)), hE8⟩
          case measure => simp [intOf] <;> omega
    · have hie : i = M.length := by omega
      subst hie
      go_wp2_with fail
      go_ret2
      have hsm : smallM M = true := smallM_yes (fun j hj => Hs.out j hj hj)
      refine ⟨?_, hE⟩
      rw [if_pos hsm]
      have := hV.out
      rw [List.take_length] at this
      exact ⟨_, rfl, this⟩
end Go.Proofs.YtcklioolpicmcaaGreatDoor
namespace Go.Proofs.YtcklioolpicmcaaGreatDoor
open Go.RowKit Go.Sort
def rowsL (ls : List Ln) : Mx := ls.map (·.1)
@[simp] theorem rowsL_length (ls : List Ln) : (rowsL ls).length = ls.length := by simp [rowsL]
theorem rowsL_getD (ls : List Ln) (i : Nat) : (rowsL ls).getD i [] = (ls.getD i default).1 := by
  unfold rowsL
  simp only [List.getD_eq_getElem?_getD, List.getElem?_map]
  cases ls[i]? <;> rfl
theorem rowsL_set (ls : List Ln) (i : Nat) (l : Ln) : rowsL (ls.set i l) = (rowsL ls).set i l.1 := by simp [rowsL, List.map_set]
theorem rowsL_swp (ls : List Ln) (i j : Nat) : rowsL (swp ls i j) = sw2 (rowsL ls) [] i j := by
  unfold swp sw2
  rw [rowsL_set, rowsL_set, rowsL_getD, rowsL_getD]
theorem rowsL_ln1 (M : Mx) : rowsL (ln1 M) = M := by simp [rowsL, ln1, Function.comp_def]
structure Gr (B : Nat) (w : World) (g cap N n : Nat) (ad : List (Nat × Nat)) (ls : List Ln) : Prop where
  gr : GrX B w (slv g N cap) (rowsL ls) ad
  len : ls.length = N
  dim : Dim n 0 ls
theorem Gr.ext {B : Nat} {w w' : World} {g cap N n : Nat} {ad : List (Nat × Nat)} {ls : List Ln} (h : Gr B w g cap N n ad ls) (he : Ext w w') : Gr B w' g cap N n ad ls := ⟨h.gr.ext he, h.len, h.dim⟩
theorem Gr.rect {B : Nat} {w : World} {g cap N n : Nat} {ad : List (Nat × Nat)} {ls : List Ln} (h : Gr B w g cap N n ad ls) : Rect n (rowsL ls) := fun r hr => by
  obtain ⟨l, hl, rfl⟩ := List.mem_map.1 hr; exact (h.dim l hl).1
theorem Gr.grl {B : Nat} {w : World} {g cap N n : Nat} {ad : List (Nat × Nat)} {ls : List Ln} (h : Gr B w g cap N n ad ls) : GrX B w (slv g (rowsL ls).length cap) (rowsL ls) ad := by
  have := h.gr; rwa [← h.len, ← rowsL_length] at this
theorem Gr.base {B : Nat} {w : World} {g cap N n : Nat} {ad : List (Nat × Nat)} {ls : List Ln} (h : Gr B w g cap N n ad ls) : B ≤ g ∧ g < w.heap.size := h.grl.outer.lt
theorem Gr.fz {B : Nat} {w : World} {g cap N n : Nat} {ad : List (Nat × Nat)} {ls : List Ln} (h : Gr B w g cap N n ad ls) (o : Nat) : w.frozen? ⟨g, o, none⟩ = false := h.grl.outer.frozen o
theorem ss_at {r : List Int} {c : Nat} (h : c < r.length) (h' : c < (ss r).length) : (ss r)[c] = I (r.getD c 0) := by rw [getD_get h]; simp [ss]
theorem Gr.ln {B : Nat} {w : World} {g cap N n d i c : Nat} {ad : List (Nat × Nat)} {ls : List Ln} (h : Gr B w g cap N n ad ls) (hi : d + i < N) (hc : c < n) :
    ∃ gx cx, ad[d + i]? = some (gx, cx) ∧ w.cell? ⟨g, d + i, none⟩ = some (slv gx n cx) ∧ w.cell? ⟨gx, c, none⟩ = some (I (cols c d ls i)) ∧ OwnV 108 B w gx cx (ss (ls.getD (d + i) default).1) ∧ gx ≠ g := by
  obtain ⟨gx, cx, h1, h2, h3, h4, h5⟩ := h.grl.at h.rect (by omega) (i := d + i) (by rw [rowsL_length, h.len]; exact hi)
  rw [rowsL_getD] at h3 h5
  refine ⟨gx, cx, h1, h2, ?_, h3, h4⟩
  rw [h3.cell (j := c) (by rw [ss_length, h5]; exact hc)]
  exact congrArg some (ss_at (by rw [h5]; exact hc) _)
theorem Gr.ne {B : Nat} {w : World} {g cap N n i t gx cx gt ct : Nat} {ad : List (Nat × Nat)} {ls : List Ln} (h : Gr B w g cap N n ad ls) (hn : 0 < n) (hi : i < N) (ht : t < N) (hne : i ≠ t) (hai : ad[i]? = some (gx, cx)) (hat : ad[t]? = some (gt, ct)) : gx ≠ gt := by
  obtain ⟨h1, e1⟩ := List.getElem?_eq_some_iff.1 hai
  obtain ⟨h2, e2⟩ := List.getElem?_eq_some_iff.1 hat
  have hl : ∀ j (hj : j < (rowsL ls).length), 0 < (rowsL ls)[j].length := fun j hj => by rw [h.rect _ (List.getElem_mem hj)]; exact hn
  have hi' : i < (rowsL ls).length := by rw [rowsL_length, h.len]; exact hi
  have ht' : t < (rowsL ls).length := by rw [rowsL_length, h.len]; exact ht
  have := h.gr.dis i t h1 h2 hi' ht' (hl i hi') (hl t ht') hne
  rw [e1, e2] at this
  exact this
theorem Gr.wrote {B : Nat} {w w' : World} {g cap N n i gx cx : Nat} {ad : List (Nat × Nat)} {ls : List Ln} (h : Gr B w g cap N n ad ls) (hn : 0 < n) (hi : i < N) (hai : ad[i]? = some (gx, cx)) {l : Ln} (hl : l.1.length = n ∧ l.2.length = 0)
    (hO : OwnV 108 B w' gx cx (ss l.1)) (hG : w.grownBy w' (some gx)) : Gr B w' g cap N n ad (ls.set i l) := by
  have hi' : i < (rowsL ls).length := by rw [rowsL_length, h.len]; exact hi
  have h1 := h.grl.wrote hi' hai (r := l.1) (by rw [rowsL_getD, hl.1, (h.dim.getD (by rw [h.len]; exact hi)).1]) (by omega) hO (Chg.of_grown hG rfl)
  rw [← rowsL_set, rowsL_length, h.len] at h1
  exact ⟨h1, by rw [List.length_set]; exact h.len, h.dim.set i hl⟩
theorem Gr.swap {B : Nat} {w : World} {g cap N n i j gi ci gj cj : Nat} {ad : List (Nat × Nat)} {ls : List Ln} (h : Gr B w g cap N n ad ls) (hn : 0 < n) (hi : i < N) (hj : j < N) (hai : ad[i]? = some (gi, ci)) (haj : ad[j]? = some (gj, cj)) :
    Gr B ((w.setCell ⟨g, i, none⟩ (slv gj n cj)).setCell ⟨g, j, none⟩ (slv gi n ci)) g cap N n (sw2 ad (0, 0) i j) (swp ls i j)
      ∧ w.grownBy ((w.setCell ⟨g, i, none⟩ (slv gj n cj)).setCell ⟨g, j, none⟩ (slv gi n ci)) (some g) := by
  have hi' : i < (rowsL ls).length := by rw [rowsL_length, h.len]; exact hi
  have hj' : j < (rowsL ls).length := by rw [rowsL_length, h.len]; exact hj
  obtain ⟨h1, h2, h3⟩ := h.grl.swapped h.rect hn hi' hj' hai haj
  rw [← rowsL_swp, rowsL_length, h.len] at h1
  refine ⟨⟨h1, by rw [swp_length]; exact h.len, ?_⟩, h2⟩
  unfold swp
  exact (h.dim.set i (h.dim.getD (by rw [h.len]; exact hj))).set j (h.dim.getD (by rw [h.len]; exact hi))
set_option maxRecDepth 100000 in
theorem take_lines {w0 w : World} {g cap N n i t E gx cx gt ct : Nat} {q : Int} {ad : List (Nat × Nat)} {ls : List Ln} (h : Gr w0.heap.size w g cap N n ad ls) (hn : 0 < n) (hn2 : n ≤ 1000000) (hi : i < N) (ht : t < N) (hne : i ≠ t)
    (hai : ad[i]? = some (gx, cx)) (hat : ad[t]? = some (gt, ct)) (hA : All (fun z => z.natAbs < 2 ^ E) (ls.getD i default)) (hB : All (fun z => z.natAbs < 2 ^ E) (ls.getD t default)) (hq : q.natAbs < 2 ^ E) (hE : 2 * E + 2 < LIM) (hL : Laid w0) (hE0 : Ext w0 w) :
    Calls Tryz.prog 117 #[slv gx n cx, slv gt n ct, I q] w fun e w' =>
      e = .returned (.tuple #[]) ∧ Gr w0.heap.size w' g cap N n ad (ls.set i (lsub q (ls.getD i default) (ls.getD t default))) ∧ Ext w0 w' ∧ w.grownBy w' (some gx) := by
  have li := h.dim.getD (i := i) (by rw [h.len]; exact hi)
  have lt := h.dim.getD (i := t) (by rw [h.len]; exact ht)
  obtain ⟨gx', cx', a1, a2, a3, a4, a5⟩ := h.grl.at h.rect hn (i := i) (by rw [rowsL_length, h.len]; exact hi)
  obtain ⟨gt', ct', b1, b2, b3, b4, b5⟩ := h.grl.at h.rect hn (i := t) (by rw [rowsL_length, h.len]; exact ht)
  rw [hai] at a1
  rw [hat] at b1
  injection a1 with a1
  injection b1 with b1
  injection a1 with e1 e2
  injection b1 with e3 e4
  subst e1 e2 e3 e4
  rw [rowsL_getD] at a3 b3
  have hk := stake_any (w0 := w0) (w := w) (ga := gx) (ca := cx) (k := q) (cb := ct) a3 b3.sl (Ne.symm (h.ne hn hi ht hne hai hat)) (by rw [lt.1, li.1]) (by rw [li.1]; exact hn2) (less_big hA.1 hB.1 hq hE) hL hE0
  rw [li.1] at hk
  refine hk.mono ?_
  rintro e w' ⟨rfl, hO, hG⟩
  exact ⟨rfl, h.wrote hn hi hai (l := lsub q (ls.getD i default) (ls.getD t default)) ⟨by show (subK q _ _).length = n; rw [subK_length]; exact li.1, by show (subK q _ _).length = 0; rw [subK_length]; exact li.2⟩ hO hG, ext_trans_grown hE0 hG a3.lt.1, hG⟩
set_option maxRecDepth 100000 in
theorem turn_lines {w0 w : World} {g cap N n i E gx cx : Nat} {ad : List (Nat × Nat)} {ls : List Ln} (h : Gr w0.heap.size w g cap N n ad ls) (hn : 0 < n) (hn2 : n ≤ 1000000) (hi : i < N)
    (hai : ad[i]? = some (gx, cx)) (hA : All (fun z => z.natAbs < 2 ^ E) (ls.getD i default)) (hE : 2 * E + 2 < LIM) (hE0 : Ext w0 w) :
    Calls Tryz.prog 67 #[slv gx n cx] w fun e w' =>
      e = .returned (.tuple #[]) ∧ Gr w0.heap.size w' g cap N n ad (ls.set i (lneg (ls.getD i default))) ∧ Ext w0 w' ∧ w.grownBy w' (some gx) := by
  have li := h.dim.getD (i := i) (by rw [h.len]; exact hi)
  obtain ⟨gx', cx', a1, a2, a3, a4, a5⟩ := h.grl.at h.rect hn (i := i) (by rw [rowsL_length, h.len]; exact hi)
  rw [hai] at a1
  injection a1 with a1
  injection a1 with e1 e2
  subst e1 e2
  rw [rowsL_getD] at a3
  refine (sturn_row (B := w0.heap.size) (w := w) a3 li.1 hn2 (fun z hz => by have := nd_lt2 (hA.1 z hz); omega)).mono ?_
  rintro e w' ⟨rfl, hO, hG⟩
  exact ⟨rfl, h.wrote hn hi hai (l := lneg (ls.getD i default)) ⟨by show (List.map _ _).length = n; rw [List.length_map]; exact li.1, by show (List.map _ _).length = 0; rw [List.length_map]; exact li.2⟩ hO hG, ext_trans_grown hE0 hG a3.lt.1, hG⟩
end Go.Proofs.YtcklioolpicmcaaGreatDoor
