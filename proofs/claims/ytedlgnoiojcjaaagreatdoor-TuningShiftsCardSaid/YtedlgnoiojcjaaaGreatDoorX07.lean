/- Part 7, beside the shared parts, of the proof of the claim: contracts and plain laws; no condition. -/
import Derived.Test.YtedlgnoiojcjaaaGreatDoorX06
set_option maxRecDepth 100000
namespace Go.Proofs.YtedlgnoiojcjaaaGreatDoor
open Go.RowKit Go.Sort
set_option maxHeartbeats 4000000 in
theorem tuEqual_any {w : World} {P P' : List Int} {C M C' M' : Mx} {G G' : List (List Rat)} {sp sp' : Option Addr} {cp cp' : Nat} {sc sc' : Option Addr} {lc cc lc' cc' : Nat} {sm sm' : Option Addr} {lm cm lm' cm' : Nat} {sg sg' : Option Addr} {lg cg lg' cg' : Nat} (h : TuV w P C M G sp cp sc lc cc sm lm cm sg lg cg) (h' : TuV w P' C' M' G' sp' cp' sc' lc' cc' sm' lm' cm' sg' lg' cg') : Calls Tryz.prog 27 #[tuS P sp cp sc lc cc sm lm cm sg lg cg, tuS P' sp' cp' sc' lc' cc' sm' lm' cm' sg' lg' cg'] w fun e w' => e = .returned (.bool (decide (P = P' ∧ C = C' ∧ M = M' ∧ G = G'))) ∧ Ext w w' := by
 have hp4 := h.tm.ok.p4
 have hm4 := h.tm.m4
 have hln := h.ln
 have q1 := Lib.hid (fun W (hW : Ext w W) => tmEqual_any (h.tm.ext hW) (h'.tm.ext hW))
 have q2 := Lib.hid (fun W (hW : Ext w W) => EqFz_any (h.gn.ext hW) (h'.gn.ext hW) (by omega) (fun r hr => by rw [h.cl r hr]; omega))
 have hX := ((Ext.refl w).alloc (.cells #[.slice sp P.length cp, .slice sc lc cc, .slice sm lm cm, .slice sg lg cg] 44)).alloc (.cells #[.slice sp' P'.length cp', .slice sc' lc' cc', .slice sm' lm' cm', .slice sg' lg' cg'] 44)
 have x0 : ((w.alloc (.cells #[.slice sp P.length cp, .slice sc lc cc, .slice sm lm cm, .slice sg lg cg] 44)).alloc (.cells #[.slice sp' P'.length cp', .slice sc' lc' cc', .slice sm' lm' cm', .slice sg' lg' cg'] 44)).cell? ⟨w.heap.size, 0, none⟩ = some (.slice sp P.length cp) := by go_simp
 have x1 : ((w.alloc (.cells #[.slice sp P.length cp, .slice sc lc cc, .slice sm lm cm, .slice sg lg cg] 44)).alloc (.cells #[.slice sp' P'.length cp', .slice sc' lc' cc', .slice sm' lm' cm', .slice sg' lg' cg'] 44)).cell? ⟨w.heap.size, 1, none⟩ = some (.slice sc lc cc) := by go_simp
 have x2 : ((w.alloc (.cells #[.slice sp P.length cp, .slice sc lc cc, .slice sm lm cm, .slice sg lg cg] 44)).alloc (.cells #[.slice sp' P'.length cp', .slice sc' lc' cc', .slice sm' lm' cm', .slice sg' lg' cg'] 44)).cell? ⟨w.heap.size, 2, none⟩ = some (.slice sm lm cm) := by go_simp
 have x3 : ((w.alloc (.cells #[.slice sp P.length cp, .slice sc lc cc, .slice sm lm cm, .slice sg lg cg] 44)).alloc (.cells #[.slice sp' P'.length cp', .slice sc' lc' cc', .slice sm' lm' cm', .slice sg' lg' cg'] 44)).cell? ⟨w.heap.size, 3, none⟩ = some (.slice sg lg cg) := by go_simp
 have x4 : ((w.alloc (.cells #[.slice sp P.length cp, .slice sc lc cc, .slice sm lm cm, .slice sg lg cg] 44)).alloc (.cells #[.slice sp' P'.length cp', .slice sc' lc' cc', .slice sm' lm' cm', .slice sg' lg' cg'] 44)).cell? ⟨w.heap.size + 1, 0, none⟩ = some (.slice sp' P'.length cp') := by go_simp
 have x5 : ((w.alloc (.cells #[.slice sp P.length cp, .slice sc lc cc, .slice sm lm cm, .slice sg lg cg] 44)).alloc (.cells #[.slice sp' P'.length cp', .slice sc' lc' cc', .slice sm' lm' cm', .slice sg' lg' cg'] 44)).cell? ⟨w.heap.size + 1, 1, none⟩ = some (.slice sc' lc' cc') := by go_simp
 have x6 : ((w.alloc (.cells #[.slice sp P.length cp, .slice sc lc cc, .slice sm lm cm, .slice sg lg cg] 44)).alloc (.cells #[.slice sp' P'.length cp', .slice sc' lc' cc', .slice sm' lm' cm', .slice sg' lg' cg'] 44)).cell? ⟨w.heap.size + 1, 2, none⟩ = some (.slice sm' lm' cm') := by go_simp
 have x7 : ((w.alloc (.cells #[.slice sp P.length cp, .slice sc lc cc, .slice sm lm cm, .slice sg lg cg] 44)).alloc (.cells #[.slice sp' P'.length cp', .slice sc' lc' cc', .slice sm' lm' cm', .slice sg' lg' cg'] 44)).cell? ⟨w.heap.size + 1, 3, none⟩ = some (.slice sg' lg' cg') := by go_simp
 clear h h' hp4 hm4 hln
 by_cases h1 : P = P' ∧ C = C' ∧ M = M'
 ·have hd : decide (P = P' ∧ C = C' ∧ M = M' ∧ G = G') = decide (G = G') := by
   rw [decide_eq_decide]; exact ⟨fun h => h.2.2.2, fun h => ⟨h1.1, h1.2.1, h1.2.2, h⟩⟩
  rw [hd]
  rw [decide_eq_true h1] at q1
  generalize decide (G = G') = z at *
  clear hd h1
  go_enter Tryz.func27, Tryz.ntmps27
  go_wp2_with fail
  refine (q1.out _ hX).mono ?_
  rintro e W1 ⟨rfl, hE1⟩
  have e1 := hX.trans hE1
  replace x3 := hE1.cell x3
  replace x7 := hE1.cell x7
  clear x0 x1 x2 x4 x5 x6
  go_wp2_with fail
  refine (q2.out _ e1).mono ?_
  rintro e W2 ⟨rfl, hE2⟩
  have e2 := e1.trans hE2
  go_wp2_with fail
  go_ret
  exact ⟨rfl, e2⟩
 ·rw [decide_eq_false (fun h => h1 ⟨h.1, h.2.1, h.2.2.1⟩)]
  rw [decide_eq_false h1] at q1
  clear h1 q2
  go_enter Tryz.func27, Tryz.ntmps27
  go_wp2_with fail
  refine (q1.out _ hX).mono ?_
  rintro e W1 ⟨rfl, hE1⟩
  have e1 := hX.trans hE1
  go_wp2_with fail
  go_ret
  exact ⟨rfl, e1⟩
set_option maxHeartbeats 4000000 in
theorem equal24_any {w : World} {P P' : List Int} {C M C' M' : Mx} {G G' : List (List Rat)} {sp sp' : Option Addr} {cp cp' : Nat} {sc sc' : Option Addr} {lc cc lc' cc' : Nat} {sm sm' : Option Addr} {lm cm lm' cm' : Nat} {sg sg' : Option Addr} {lg cg lg' cg' : Nat} (h : TuV w P C M G sp cp sc lc cc sm lm cm sg lg cg) (h' : TuV w P' C' M' G' sp' cp' sc' lc' cc' sm' lm' cm' sg' lg' cg') : Calls Tryz.prog 26 #[tuS P sp cp sc lc cc sm lm cm sg lg cg, tuS P' sp' cp' sc' lc' cc' sm' lm' cm' sg' lg' cg'] w fun e w' => e = .returned (.bool (decide (P = P' ∧ C = C' ∧ M = M' ∧ G = G'))) ∧ Ext w w' := by
 have hp4 := h.tm.ok.p4
 have hm4 := h.tm.m4
 have hg4 : G.length ≤ 4 := by rw [h.ln]; exact hm4
 have Hcl := Lib.hid h.cl
 have hlg := h.gn.len
 have hlg' := h'.gn.len
 have Hll := Lib.hid (fun (e : M = M') => show G.length = G'.length by rw [h.ln, h'.ln, e])
 have q1 := Lib.hid (fun W (hW : Ext w W) => Same18_any (h.tm.ext hW) (h'.tm.ext hW))
 have Hp4 := Lib.hid hp4
 have hgn := h.gn
 have hgn' := h'.gn
 have hX := ((Ext.refl w).alloc (.cells #[.slice sp P.length cp, .slice sc lc cc, .slice sm lm cm, .slice sg lg cg] 44)).alloc (.cells #[.slice sp' P'.length cp', .slice sc' lc' cc', .slice sm' lm' cm', .slice sg' lg' cg'] 44)
 have x0 : ((w.alloc (.cells #[.slice sp P.length cp, .slice sc lc cc, .slice sm lm cm, .slice sg lg cg] 44)).alloc (.cells #[.slice sp' P'.length cp', .slice sc' lc' cc', .slice sm' lm' cm', .slice sg' lg' cg'] 44)).cell? ⟨w.heap.size, 0, none⟩ = some (.slice sp P.length cp) := by go_simp
 have x1 : ((w.alloc (.cells #[.slice sp P.length cp, .slice sc lc cc, .slice sm lm cm, .slice sg lg cg] 44)).alloc (.cells #[.slice sp' P'.length cp', .slice sc' lc' cc', .slice sm' lm' cm', .slice sg' lg' cg'] 44)).cell? ⟨w.heap.size, 1, none⟩ = some (.slice sc lc cc) := by go_simp
 have x2 : ((w.alloc (.cells #[.slice sp P.length cp, .slice sc lc cc, .slice sm lm cm, .slice sg lg cg] 44)).alloc (.cells #[.slice sp' P'.length cp', .slice sc' lc' cc', .slice sm' lm' cm', .slice sg' lg' cg'] 44)).cell? ⟨w.heap.size, 2, none⟩ = some (.slice sm lm cm) := by go_simp
 have x3 : ((w.alloc (.cells #[.slice sp P.length cp, .slice sc lc cc, .slice sm lm cm, .slice sg lg cg] 44)).alloc (.cells #[.slice sp' P'.length cp', .slice sc' lc' cc', .slice sm' lm' cm', .slice sg' lg' cg'] 44)).cell? ⟨w.heap.size, 3, none⟩ = some (.slice sg lg cg) := by go_simp
 have x4 : ((w.alloc (.cells #[.slice sp P.length cp, .slice sc lc cc, .slice sm lm cm, .slice sg lg cg] 44)).alloc (.cells #[.slice sp' P'.length cp', .slice sc' lc' cc', .slice sm' lm' cm', .slice sg' lg' cg'] 44)).cell? ⟨w.heap.size + 1, 0, none⟩ = some (.slice sp' P'.length cp') := by go_simp
 have x5 : ((w.alloc (.cells #[.slice sp P.length cp, .slice sc lc cc, .slice sm lm cm, .slice sg lg cg] 44)).alloc (.cells #[.slice sp' P'.length cp', .slice sc' lc' cc', .slice sm' lm' cm', .slice sg' lg' cg'] 44)).cell? ⟨w.heap.size + 1, 1, none⟩ = some (.slice sc' lc' cc') := by go_simp
 have x6 : ((w.alloc (.cells #[.slice sp P.length cp, .slice sc lc cc, .slice sm lm cm, .slice sg lg cg] 44)).alloc (.cells #[.slice sp' P'.length cp', .slice sc' lc' cc', .slice sm' lm' cm', .slice sg' lg' cg'] 44)).cell? ⟨w.heap.size + 1, 2, none⟩ = some (.slice sm' lm' cm') := by go_simp
 have x7 : ((w.alloc (.cells #[.slice sp P.length cp, .slice sc lc cc, .slice sm lm cm, .slice sg lg cg] 44)).alloc (.cells #[.slice sp' P'.length cp', .slice sc' lc' cc', .slice sm' lm' cm', .slice sg' lg' cg'] 44)).cell? ⟨w.heap.size + 1, 3, none⟩ = some (.slice sg' lg' cg') := by go_simp
 obtain ⟨sa, ga, oa, ca, va', ev, hca, hvA, hSa, hrA⟩ := hgn
 obtain ⟨sb, gb, ob, cb, vb', ev', hcb, hvB, hSb, hrB⟩ := hgn'
 injection ev with ev1 ev2 ev3
 injection ev' with ev4 ev5 ev6
 subst ev1 ev3 ev4 ev6
 have HA := Lib.hid hSa
 have HB := Lib.hid hSb
 have HvA := Lib.hid hvA
 have HvB := Lib.hid hvB
 have HrA := Lib.hid hrA
 have HrB := Lib.hid hrB
 clear h h' hp4 hm4 hSa hSb hvA hvB hrA hrB hca hcb ev2 ev5
 by_cases h1 : P = P' ∧ C = C' ∧ M = M'
 ·have hd : decide (P = P' ∧ C = C' ∧ M = M' ∧ G = G') = decide (G = G') := by
   rw [decide_eq_decide]; exact ⟨fun h => h.2.2.2, fun h => ⟨h1.1, h1.2.1, h1.2.2, h⟩⟩
  rw [hd]
  have hle := Hll.out h1.2.2
  have Hno := Lib.hid (fun (h : G ≠ G') => decide_eq_false h)
  have Hyes := Lib.hid (fun (h : ∀ i (h : i < G.length) (h' : i < G'.length), G[i] = G'[i]) => decide_eq_true (show G = G' from List.ext_getElem hle h))
  rw [decide_eq_true h1] at q1
  generalize decide (G = G') = q at *
  obtain ⟨n, hn⟩ : ∃ n, n = G.length := ⟨_, rfl⟩
  have Hn := Lib.hid hn
  have Hm := Lib.hid (show n = G'.length by rw [hn, hle])
  rw [← hn] at hg4
  have Hlg := Lib.hid (show lg = n by rw [hlg, hn])
  have Hlg' := Lib.hid (show lg' = n by rw [hlg', ← hle, hn])
  clear hd h1 hle hn hlg hlg'
  go_enter Tryz.func26, Tryz.ntmps26
  go_wp2_with fail
  refine (q1.out _ hX).mono ?_
  rintro e W1 ⟨rfl, hE1⟩
  have e1 := hX.trans hE1
  replace x3 := hE1.cell x3
  replace x7 := hE1.cell x7
  clear x0 x1 x2 x4 x5 x6 hX hE1 q1
  rw [Hlg.out] at x3
  rw [Hlg'.out] at x7
  go_wp2_with fail
  go_loopw [5] (fun idx wr => ∃ i : Nat, i ≤ n ∧ idx = .int .i64 i ∧ Hid (∀ t (h : t < G.length) (h' : t < G'.length), t < i → G[t] = G'[t]) ∧ Ext W1 wr) (fun idx _ => n - (intOf idx).toNat)
  case atStart => exact ⟨0, by omega, by go_num, Lib.hid (fun t _ _ h => by omega), Ext.refl _⟩
  case round =>
   obtain ⟨i, hi, rfl, Hz, hE⟩ := hrel
   generalize wr = X at *
   have y3 := hE.cell x3
   have y7 := hE.cell x7
   by_cases hlt : i < n
   ·have hii : (i : Int) < (n : Int) := by omega
    have hiA : i < G.length := by rw [← Hn.out]; exact hlt
    have hiB : i < G'.length := by rw [← Hm.out]; exact hlt
    have hia : i < va'.length := by rw [HvA.out]; exact hiA
    have hib : i < vb'.length := by rw [HvB.out]; exact hiB
    obtain rfl := HA.out.addr (by omega)
    obtain rfl := HB.out.addr (by omega)
    have eX := e1.trans hE
    have k1 := eX.cell (HA.out.cell i _ (List.getElem?_eq_getElem hia))
    have k2 := eX.cell (HB.out.cell i _ (List.getElem?_eq_getElem hib))
    have hx1 := (HrA.out i hiA hia).ext eX
    have hy1 := (HrB.out i hiB hib).ext eX
    have hEQ := Lib.hid (fun W (hW : Ext X W) => Same24_any (hx1.ext hW) (hy1.ext hW) (by rw [Hcl.out _ (List.getElem_mem hiA)]; have := Hp4.out; omega))
    have Hq := Lib.hid (fun (h : G[i] ≠ G'[i]) => Hno.out (fun h2 => h (by simp only [h2])))
    have HA' := Lib.hid (fun (h : G[i] = G'[i]) t (ht : t < G.length) (ht' : t < G'.length) (hti : t < i + 1) => show G[t] = G'[t] by
     by_cases e : t = i
     ·subst e; exact h
     ·exact Hz.out t ht ht' (by omega))
    obtain ⟨xa, xb, xo, xc, ex, hz1⟩ := hx1
    obtain ⟨ya, yb, yo, yc, ey, hz2⟩ := hy1
    rw [ex] at k1 hEQ
    rw [ey] at k2 hEQ
    clear hz1 hz2 ex ey hia hib
    by_cases hc : G[i] = G'[i]
    ·skip
     rw [decide_eq_true hc] at hEQ
     have Hz := Lib.hid (HA'.out hc)
     generalize G[i].length = nx at *
     generalize G'[i].length = ny at *
     clear HA' Hq hc
     go_wp2_with fail
     have d0 : Ext X X.drew := (Ext.refl X).drew
     refine wp_region_held_tail (S := fun W => Ext X W) 11 (by kernel_rfl) (by simp) ?_
     intro inv
     generalize X.drew = X1 at *
     refine wpAnyLH_take (i := 0) (v := .pointer (some ⟨w.heap.size, 3, none⟩)) rfl (by kernel_rfl) (fun _ _ _ h => h) (.inl ⟨by rfl, fun W hW => by go_simp⟩) d0 inv ?_
     intro inv
     go_simp
     refine wpAnyLH_take (i := 1) (v := .slice (some ⟨ga, oa, none⟩) n cg) rfl (by kernel_rfl) (fun _ _ _ h => h) (.inl ⟨by rfl, fun W hW => by have z0 := hW.cell y3; go_simp⟩) d0 inv ?_
     intro inv
     go_simp
     refine wpAnyLH_take (i := 2) (v := .int .i64 i) rfl (by kernel_rfl) (fun _ _ _ h => h) (.inl ⟨by rfl, fun W hW => by go_simp⟩) d0 inv ?_
     intro inv
     go_simp
     refine wpAnyLH_take (i := 3) (v := .pointer (some ⟨ga, oa + i, none⟩)) rfl (by kernel_rfl) (fun _ _ _ h => h) (.inl ⟨by rfl, fun W hW => by go_simp⟩) d0 inv ?_
     intro inv
     go_simp
     refine wpAnyLH_take (i := 4) (v := .slice xa nx xc) rfl (by kernel_rfl) (fun _ _ _ h => h) (.inl ⟨by rfl, fun W hW => by have z0 := hW.cell k1; go_simp⟩) d0 inv ?_
     intro inv
     go_simp
     refine wpAnyLH_take (i := 5) (v := .pointer (some ⟨w.heap.size + 1, 3, none⟩)) rfl (by kernel_rfl) (fun _ _ _ h => h) (.inl ⟨by rfl, fun W hW => by go_simp⟩) d0 inv ?_
     intro inv
     go_simp
     refine wpAnyLH_take (i := 6) (v := .slice (some ⟨gb, ob, none⟩) n cg') rfl (by kernel_rfl) (fun _ _ _ h => h) (.inl ⟨by rfl, fun W hW => by have z0 := hW.cell y7; go_simp⟩) d0 inv ?_
     intro inv
     go_simp
     refine wpAnyLH_take (i := 7) (v := .int .i64 i) rfl (by kernel_rfl) (fun _ _ _ h => h) (.inl ⟨by rfl, fun W hW => by go_simp⟩) d0 inv ?_
     intro inv
     go_simp
     refine wpAnyLH_take (i := 8) (v := .pointer (some ⟨gb, ob + i, none⟩)) rfl (by kernel_rfl) (fun _ _ _ h => h) (.inl ⟨by rfl, fun W hW => by go_simp⟩) d0 inv ?_
     intro inv
     go_simp
     refine wpAnyLH_take (i := 9) (v := .slice ya ny yc) rfl (by kernel_rfl) (fun _ _ _ h => h) (.inl ⟨by rfl, fun W hW => by have z0 := hW.cell k2; go_simp⟩) d0 inv ?_
     intro inv
     go_simp
     refine wpAnyLH_oneI (i := 10) rfl (by kernel_rfl) inv (fun inv K0 hK0 => ?_)
     go_simp
     refine (hEQ.out _ d0).mono ?_
     rintro e X2 ⟨rfl, hG⟩
     have d1 := d0.trans hG
     refine hK0 _ _ d1 ?_
     clear hK0
     refine wpAnyLH_end (by kernel_rfl) ?_
     have hE2 := hE.trans d1
     have eF := eX.trans d1
     clear inv d0 d1 hG hEQ k1 k2 y3 y7
     go_wp2_with fail
     go_roundw
     case rel => exact ⟨i + 1, by omega, by go_num, Hz, hE2⟩
     case measure => simp [intOf] <;> omega
    ·skip
     rw [decide_eq_false hc] at hEQ
     have Hq0 := Lib.hid (Hq.out hc)
     generalize G[i].length = nx at *
     generalize G'[i].length = ny at *
     clear HA' Hq hc
     go_wp2_with fail
     have d0 : Ext X X.drew := (Ext.refl X).drew
     refine wp_region_held_tail (S := fun W => Ext X W) 11 (by kernel_rfl) (by simp) ?_
     intro inv
     generalize X.drew = X1 at *
     refine wpAnyLH_take (i := 0) (v := .pointer (some ⟨w.heap.size, 3, none⟩)) rfl (by kernel_rfl) (fun _ _ _ h => h) (.inl ⟨by rfl, fun W hW => by go_simp⟩) d0 inv ?_
     intro inv
     go_simp
     refine wpAnyLH_take (i := 1) (v := .slice (some ⟨ga, oa, none⟩) n cg) rfl (by kernel_rfl) (fun _ _ _ h => h) (.inl ⟨by rfl, fun W hW => by have z0 := hW.cell y3; go_simp⟩) d0 inv ?_
     intro inv
     go_simp
     refine wpAnyLH_take (i := 2) (v := .int .i64 i) rfl (by kernel_rfl) (fun _ _ _ h => h) (.inl ⟨by rfl, fun W hW => by go_simp⟩) d0 inv ?_
     intro inv
     go_simp
     refine wpAnyLH_take (i := 3) (v := .pointer (some ⟨ga, oa + i, none⟩)) rfl (by kernel_rfl) (fun _ _ _ h => h) (.inl ⟨by rfl, fun W hW => by go_simp⟩) d0 inv ?_
     intro inv
     go_simp
     refine wpAnyLH_take (i := 4) (v := .slice xa nx xc) rfl (by kernel_rfl) (fun _ _ _ h => h) (.inl ⟨by rfl, fun W hW => by have z0 := hW.cell k1; go_simp⟩) d0 inv ?_
     intro inv
     go_simp
     refine wpAnyLH_take (i := 5) (v := .pointer (some ⟨w.heap.size + 1, 3, none⟩)) rfl (by kernel_rfl) (fun _ _ _ h => h) (.inl ⟨by rfl, fun W hW => by go_simp⟩) d0 inv ?_
     intro inv
     go_simp
     refine wpAnyLH_take (i := 6) (v := .slice (some ⟨gb, ob, none⟩) n cg') rfl (by kernel_rfl) (fun _ _ _ h => h) (.inl ⟨by rfl, fun W hW => by have z0 := hW.cell y7; go_simp⟩) d0 inv ?_
     intro inv
     go_simp
     refine wpAnyLH_take (i := 7) (v := .int .i64 i) rfl (by kernel_rfl) (fun _ _ _ h => h) (.inl ⟨by rfl, fun W hW => by go_simp⟩) d0 inv ?_
     intro inv
     go_simp
     refine wpAnyLH_take (i := 8) (v := .pointer (some ⟨gb, ob + i, none⟩)) rfl (by kernel_rfl) (fun _ _ _ h => h) (.inl ⟨by rfl, fun W hW => by go_simp⟩) d0 inv ?_
     intro inv
     go_simp
     refine wpAnyLH_take (i := 9) (v := .slice ya ny yc) rfl (by kernel_rfl) (fun _ _ _ h => h) (.inl ⟨by rfl, fun W hW => by have z0 := hW.cell k2; go_simp⟩) d0 inv ?_
     intro inv
     go_simp
     refine wpAnyLH_oneI (i := 10) rfl (by kernel_rfl) inv (fun inv K0 hK0 => ?_)
     go_simp
     refine (hEQ.out _ d0).mono ?_
     rintro e X2 ⟨rfl, hG⟩
     have d1 := d0.trans hG
     refine hK0 _ _ d1 ?_
     clear hK0
     refine wpAnyLH_end (by kernel_rfl) ?_
     have hE2 := hE.trans d1
     have eF := eX.trans d1
     clear inv d0 d1 hG hEQ k1 k2 y3 y7
     go_wp2_with fail
     go_ret
     exact ⟨ret_val (congrArg Value.bool Hq0.out.symm), eF⟩
   ·obtain rfl : i = n := by omega
    have hii : ¬ (i : Int) < (i : Int) := by omega
    have Hq := Lib.hid (Hyes.out (fun t h h' => Hz.out t h h' (by rw [Hn.out]; exact h)))
    have eF := e1.trans hE
    clear hlt Hz
    go_wp2_with fail
    go_ret
    exact ⟨ret_val (congrArg Value.bool Hq.out.symm), eF⟩
 ·rw [decide_eq_false (fun h => h1 ⟨h.1, h.2.1, h.2.2.1⟩)]
  rw [decide_eq_false h1] at q1
  clear h1 hlg hlg'
  go_enter Tryz.func26, Tryz.ntmps26
  go_wp2_with fail
  refine (q1.out _ hX).mono ?_
  rintro e W1 ⟨rfl, hE1⟩
  have e1 := hX.trans hE1
  go_wp2_with fail
  go_ret
  exact ⟨rfl, e1⟩
end Go.Proofs.YtedlgnoiojcjaaaGreatDoor
