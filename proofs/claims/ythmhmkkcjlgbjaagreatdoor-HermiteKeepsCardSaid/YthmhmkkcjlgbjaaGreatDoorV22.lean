/- Part 22 of the proof of the claim: contracts of the functions that it reaches, and plain laws; no condition. -/
import Derived.Test.YthmhmkkcjlgbjaaGreatDoorV21
import Derived.Test.YthmhmkkcjlgbjaaGreatDoorV19
import Derived.Test.YthmhmkkcjlgbjaaGreatDoorCards
import Derived.Test.YthmhmkkcjlgbjaaGreatDoorTie
import Derived.SevenTiedAt
/- schismalaw07: HermiteSublattices, the walk -/
namespace Go.Proofs.YthmhmkkcjlgbjaaGreatDoor
open Go.RowKit Go.Sort
structure ByV (bs : Array Value) : Prop where
  sz : bs.size = 4
  ent : ∀ j, j < 4 → ∃ z : Int, bs[j]? = some (.int .i8 z) ∧ -128 ≤ z ∧ z ≤ 127
theorem prodL_snoc : ∀ (ks : List Int) (k : Int), prodL (ks ++ [k]) = prodL ks * k
  | [], k => by simp [prodL]
  | l :: ks, k => by rw [List.cons_append, prodL, prodL, prodL_snoc ks k, Int.mul_assoc]
theorem prodL_small : ∀ {ks : List Int}, (∀ k ∈ ks, k ≠ 0 ∧ -7 ≤ k ∧ k ≤ 7) → (prodL ks).natAbs ≤ 7 ^ ks.length
  | [], _ => by simp [prodL]
  | k :: ks, h => by
    have h1 := prodL_small (ks := ks) fun l hl => h l (by simp [hl])
    have h2 := (h k (by simp)).2
    rw [prodL, Int.natAbs_mul, List.length_cons, Nat.pow_succ, Nat.mul_comm]
    exact Nat.mul_le_mul h1 (by omega)
theorem prodL_2401 {ks : List Int} (h : ∀ k ∈ ks, k ≠ 0 ∧ -7 ≤ k ∧ k ≤ 7) (hl : ks.length ≤ 4) : (prodL ks).natAbs ≤ 2401 := by
  have := prodL_small h
  have h2 := Nat.pow_le_pow_right (n := 7) (by omega) hl
  have : (7 : Nat) ^ 4 = 2401 := by decide
  omega
theorem zip_snoc {ks : List Int} {M : Mx} {k : Int} (h : ks.length < M.length) : List.zipWith scaleR (ks ++ [k]) M = List.zipWith scaleR ks M ++ [scaleR k M[ks.length]] := by
  have e : M = M.take ks.length ++ (M[ks.length] :: M.drop (ks.length + 1)) := by
    rw [← List.drop_eq_getElem_cons h, List.take_append_drop]
  have h1 : List.zipWith scaleR (ks ++ [k]) M = List.zipWith scaleR (ks ++ [k]) (M.take ks.length ++ (M[ks.length] :: M.drop (ks.length + 1))) := by rw [← e]
  rw [h1, List.zipWith_append (by simp; omega)]
  have h2 : List.zipWith scaleR ks (M.take ks.length) = List.zipWith scaleR ks M := by
    apply List.ext_getElem?
    intro i
    rw [List.getElem?_zipWith, List.getElem?_zipWith, List.getElem?_take]
    by_cases hi : i < ks.length
    · rw [if_pos hi]
    · rw [List.getElem?_eq_none (by omega)]
  rw [h2]
  rfl
theorem scaleR_snoc {k : Int} {r : List Int} {c : Nat} (h : c < r.length) : scaleR k (r.take (c + 1)) = scaleR k (r.take c) ++ [k * r[c]] := by
  rw [List.take_succ_eq_append_getElem h]; unfold scaleR; rw [List.map_append]; rfl
theorem hnf_len {n : Nat} {M F : Mx} (h : HnfOf n M F) (h4 : F.length ≤ 4) : F.length ≤ M.length := by
  obtain ⟨⟨ps, hI⟩, f1, _⟩ := h
  exact rank_le hI h4 (N := 1) (by decide) fun v hv => mulV_span 1 (f1 v hv)
theorem mul_140 {k y : Int} (hk : -7 ≤ k ∧ k ≤ 7) (hy : -20 ≤ y ∧ y ≤ 20) : -140 ≤ k * y ∧ k * y ≤ 140 := by
  have : (k * y).natAbs ≤ 7 * 20 := by rw [Int.natAbs_mul]; exact Nat.mul_le_mul (by omega) (by omega)
  omega
set_option maxRecDepth 100000 in
set_option maxHeartbeats 2000000 in
theorem subs_walk {w : World} {cs bs : Array Value} {R C : Nat} (hG : GridV cs R C) (hB : ByV bs) (hL : Laid w) :
    Calls Tryz.prog 3 #[.agg cs, .agg bs] w fun e w' => e = .returned (.bool true) ∧ Ext w w' := by
  have hcell := Lib.hid (fun (j : Nat) (x : Value) (h : cs[j]? = some x) => (((Ext.refl (w.alloc (.cells cs 25))).alloc (.cells bs 26))).cell (grid_cell (w := w) (T := 25) h))
  have hbc := Lib.hid (fun (j : Nat) (x : Value) (h : bs[j]? = some x) => grid_cell (w := w.alloc (.cells cs 25)) (T := 26) h)
  have hEw := ((Ext.refl w).alloc (.cells cs 25)).alloc (.cells bs 26)
  obtain ⟨z0, z1, z2, z3, z4, z5, z6, z7, z8, z9, z10, z11, z12, z13, z14, z15, hcs⟩ := hG.cells
  have HG := Lib.hid hG
  have HB := Lib.hid hB
  have HL := Lib.hid hL
  have Hcs := Lib.hid hcs
  have hsz1 : (w.alloc (.cells cs 25)).heap.size = w.heap.size + 1 := by simp
  rw [hsz1] at hbc
  have hkn := Lib.hid (known_any (HL.out.ext hEw))
  clear hG hB hL hcs hsz1
  go_enter Tryz.func3, Tryz.ntmps3
  go_wp2_with fail
  refine hkn.out.mono ?_
  rintro e w1 ⟨rfl, hE1⟩
  clear hkn
  generalize ((w.alloc (.cells cs 25)).alloc (.cells bs 26)) = V at *
  have hEV1 := hEw.trans hE1
  have hmk := Lib.hid (Make_any (w := w1) HG.out)
  rw [Hcs.out] at hmk
  have hmk2 : Hid (Calls Tryz.prog 11 #[.agg #[.int .u8 R, .int .u8 C, .int .i8 z0, .int .i8 z1, .int .i8 z2, .int .i8 z3, .int .i8 z4, .int .i8 z5, .int .i8 z6, .int .i8 z7, .int .i8 z8, .int .i8 z9, .int .i8 z10, .int .i8 z11, .int .i8 z12, .int .i8 z13, .int .i8 z14, .int .i8 z15]] w1 fun e w' => ∃ v M, e = .returned v ∧ MatO w1.heap.size w' v M ∧ GridM M ∧ Ext w1 w') := hmk
  clear hmk
  have c0 := hE1.cell (hcell.out 0 (.int .u8 R) (by rw [Hcs.out]; rfl))
  have c1 := hE1.cell (hcell.out 1 (.int .u8 C) (by rw [Hcs.out]; rfl))
  have c2 := hE1.cell (hcell.out 2 (.int .i8 z0) (by rw [Hcs.out]; rfl))
  have c3 := hE1.cell (hcell.out 3 (.int .i8 z1) (by rw [Hcs.out]; rfl))
  have c4 := hE1.cell (hcell.out 4 (.int .i8 z2) (by rw [Hcs.out]; rfl))
  have c5 := hE1.cell (hcell.out 5 (.int .i8 z3) (by rw [Hcs.out]; rfl))
  have c6 := hE1.cell (hcell.out 6 (.int .i8 z4) (by rw [Hcs.out]; rfl))
  have c7 := hE1.cell (hcell.out 7 (.int .i8 z5) (by rw [Hcs.out]; rfl))
  have c8 := hE1.cell (hcell.out 8 (.int .i8 z6) (by rw [Hcs.out]; rfl))
  have c9 := hE1.cell (hcell.out 9 (.int .i8 z7) (by rw [Hcs.out]; rfl))
  have c10 := hE1.cell (hcell.out 10 (.int .i8 z8) (by rw [Hcs.out]; rfl))
  have c11 := hE1.cell (hcell.out 11 (.int .i8 z9) (by rw [Hcs.out]; rfl))
  have c12 := hE1.cell (hcell.out 12 (.int .i8 z10) (by rw [Hcs.out]; rfl))
  have c13 := hE1.cell (hcell.out 13 (.int .i8 z11) (by rw [Hcs.out]; rfl))
  have c14 := hE1.cell (hcell.out 14 (.int .i8 z12) (by rw [Hcs.out]; rfl))
  have c15 := hE1.cell (hcell.out 15 (.int .i8 z13) (by rw [Hcs.out]; rfl))
  have c16 := hE1.cell (hcell.out 16 (.int .i8 z14) (by rw [Hcs.out]; rfl))
  have c17 := hE1.cell (hcell.out 17 (.int .i8 z15) (by rw [Hcs.out]; rfl))
  go_wp2_with fail
  refine hmk2.out.mono ?_
  rintro e w2 ⟨v, M, rfl, hM, hGM, hE2⟩
  rw [← Hcs.out]
  clear hmk2 c0 c1 c2 c3 c4 c5 c6 c7 c8 c9 c10 c11 c12 c13 c14 c15 c16 c17
  have hE12 := hE1.trans hE2
  have hEV2 := hEV1.trans hE2
  obtain ⟨hRn, hn4, hm4, hck⟩ := gridM_rect hGM
  have hfo := Lib.hid (form_any hM.mat hck (by have := bC_lim (L := M.length) (c := ncols M) (by omega) (by omega); omega) (HL.out.ext hEV2))
  have HM := Lib.hid hM.mat
  have HGM := Lib.hid hGM
  have HRn := Lib.hid hRn
  clear hM hGM hck hRn hE1 hEV1
  go_wp2_with fail
  refine hfo.out.mono ?_
  rintro e w3 ⟨F, hF, hP, hE3⟩
  have hsm := grid_form HGM.out hF
  rw [if_pos hsm.1] at hP
  obtain ⟨vf, rfl, hFO⟩ := hP
  have HF := Lib.hid hF
  have HFO := Lib.hid hFO.mat
  have hE13 := hE12.trans hE3
  have hEV3 := hEV2.trans hE3
  have HM3 := Lib.hid (HM.out.ext hE3)
  clear hfo hsm hF hFO HM
  obtain ⟨sa, gb, go, cap, vs, rfl, hcap, hvl, hSl, hr⟩ := HM3.out
  have HSl := Lib.hid hSl
  have Hvl := Lib.hid hvl
  have Hr := Lib.hid hr
  have HMl := Lib.hid hm4
  clear hSl hvl hr HM3 hcell
  go_wp2_with fail
  go_loopw [8, 9, 10] (fun sub prod idx wr => ∃ (i : Nat) (ks : List Int), i ≤ M.length ∧ idx = .int .i64 i ∧ Hid (ks.length = i) ∧ Hid (∀ k ∈ ks, k ≠ 0 ∧ -7 ≤ k ∧ k ≤ 7) ∧ prod = .int .i64 ((prodL ks).natAbs : Nat) ∧ Hid (MatO w3.heap.size wr sub (List.zipWith scaleR ks M)) ∧ Ext w3 wr) (fun _ _ idx _ => M.length - (intOf idx).toNat)
  case atStart => exact ⟨0, [], by omega, by go_num, Lib.hid rfl, Lib.hid (fun k h => by cases h), rfl, Lib.hid (MatO.nil _ _), Ext.refl _⟩
  case round =>
    obtain ⟨i, ks, hi, rfl, hkl, hkb, rfl, hO, hE⟩ := hrel
    generalize wr = X at *
    by_cases hlt : i < M.length
    · have hii : (i : Int) < (M.length : Int) := by omega
      have hi4 : i < 4 := by omega
      obtain ⟨z, hz, hzb⟩ := HB.out.ent i hi4
      have hzc := (hE13.trans hE).cell (hbc.out i _ hz)
      obtain rfl := HSl.out.addr (by rw [Hvl.out]; omega)
      obtain ⟨sr, br, or, cr, hrow, hrc, hSr⟩ := MatR.row HSl.out Hvl.out Hr.out hlt
      have hrl : M[i].length = ncols M := HRn.out _ (List.getElem_mem hlt)
      have hrb : ∀ y ∈ M[i], -20 ≤ y ∧ y ≤ 20 := by
        obtain ⟨_, _, _, _, _, he⟩ := HGM.out
        exact he _ (List.getElem_mem hlt)
      have hzip := Lib.hid (fun k => zip_snoc (k := k) (ks := ks) (M := M) (by rw [hkl.out]; exact hlt))
      have hMi : M[ks.length]'(by rw [hkl.out]; exact hlt) = M[i] := by simp only [hkl.out]
      rw [hMi] at hzip
      obtain ⟨n, hn⟩ : ∃ n, n = ncols M := ⟨_, rfl⟩
      obtain ⟨r, hr9⟩ : ∃ r, r = M[i] := ⟨_, rfl⟩
      rw [← hr9] at hrow hrc hSr hrl hrb hzip
      rw [← hn] at hrl hn4
      rw [hrl] at hrow
      have HSr := Lib.hid (hSr.ext hE)
      have Hrl := Lib.hid hrl
      have Hrb := Lib.hid hrb
      have hrow' := hE.cell hrow
      have hP := prodL_2401 hkb.out (by rw [hkl.out]; omega)
      have hPs := Lib.hid (fun k => congrArg Int.natAbs (prodL_snoc ks k))
      obtain ⟨P, hPe⟩ : ∃ P, P = (prodL ks).natAbs := ⟨_, rfl⟩
      rw [← hPe] at hP ⊢
      have HPe := Lib.hid hPe
      clear hrow hrc hSr hrl hrb hr9 hn hMi hz hPe
      obtain ⟨q, hq⟩ : ∃ q, q = z.tmod 8 := ⟨_, rfl⟩
      have hq7 : -7 ≤ q ∧ q ≤ 7 := by
        have h1 := Int.tmod_lt_of_pos z (b := 8) (by omega)
        have h2 := Int.lt_tmod_of_pos z (b := 8) (by omega)
        omega
      have hqe := hq.symm
      clear hq
      have hM9 := hkl.out
      by_cases hq0 : q = 0
      · as_aux_lemma =>
        subst hq0
        have hkp : Hid ((1 : Int) ≠ 0 ∧ -7 ≤ (1 : Int) ∧ (1 : Int) ≤ 7) := Lib.hid (by omega)
        clear hq7
        go_wp2_with fail
        go_loopw [12, 13] (fun row c wr => ∃ j : Nat, j ≤ n ∧ c = .int .i64 j ∧ Hid (RowV X.heap.size wr row (scaleR 1 (r.take j))) ∧ Ext X wr) (fun _ c _ => n - (intOf c).toNat)
        case atStart => exact ⟨0, by omega, by go_num, Lib.hid (RowV.nil _ _), Ext.refl _⟩
        case round =>
          obtain ⟨j, hj, rfl, hRo, hEj⟩ := hrel
          generalize wr = Y at *
          have hrowY := hEj.cell hrow'
          have hYs := hEj.size
          by_cases hjn : j < n
          · have hji : (j : Int) < (n : Int) := by omega
            have hjr : j < r.length := by rw [Hrl.out]; exact hjn
            have cy := (HSr.out.ext hEj).cell j (.int .i64 (r[j])) (is_get hjr)
            obtain rfl := HSr.out.addr (by rw [is_length, Hrl.out]; omega)
            have hyb := Hrb.out _ (List.getElem_mem hjr)
            have hsn := Lib.hid (scaleR_snoc (k := 1) hjr)
            obtain ⟨y, hy⟩ : ∃ y, y = r[j] := ⟨_, rfl⟩
            rw [← hy] at cy hyb hsn
            rw [Int.one_mul] at hsn
            obtain ⟨p, hp⟩ : ∃ p, p = y := ⟨_, rfl⟩
            rw [← hp] at cy hyb hsn
            have hsl : (scaleR 1 (r.take j)).length = j := by unfold scaleR; rw [List.length_map, List.length_take]; omega
            have Hsl := Lib.hid hsl
            have Hs9 := Lib.hid (show (scaleR 1 (r.take j)).length ≤ 1000000000 by rw [hsl]; omega)
            clear hy hp hsl
            go_wp2_with (at_builtin; refine app_int rfl _ _ 35 Tryz.underlying35 rfl rfl (hRo.out.ext ((Ext.refl _).alloc _)) rfl (b := Y.heap.size) (z := p) (by go_simp) Hs9.out (by simp; omega) ?_; intro gg cap2 w8 hO8 hB8 hG8; rw [Hsl.out, ← hsn.out] at hO8; rw [Hsl.out])
            have hE8 : Ext X w8 := Below.trans (hEj.alloc (.cells #[.int .i64 p] 3)) hB8
            have hO9 := Lib.hid hO8
            clear hG8 hB8 hO8
            go_wp2_with fail
            go_roundw
            case rel => exact ⟨j + 1, by omega, by go_num, hO9, hE8⟩
            case measure => simp [intOf] <;> omega
          · have hje : r.take j = r := List.take_of_length_le (by rw [Hrl.out]; omega)
            rw [hje] at hRo
            have hEY := hE.trans hEj
            have HO2 := Lib.hid (hO.out.ext hEj)
            have HR2 := Lib.hid (hRo.out.mono hE.size)
            have hzl : (List.zipWith scaleR ks M).length = i := by rw [List.length_zipWith, hM9]; omega
            have Hzl := Lib.hid hzl
            have Hz9 := Lib.hid (show (List.zipWith scaleR ks M).length ≤ 1000000000 by rw [hzl]; omega)
            have hszY := hEY.size
            obtain ⟨sv, bv, cv, hsv⟩ : ∃ a l c, u12 = .slice a l c := by
              rcases hRo.out.2 with ⟨h, _⟩ | ⟨g, cap, cur, h, _⟩ <;> exact ⟨_, _, _, h⟩
            subst hsv
            have hzk := Lib.hid (hzip.out 1)
            have Hkb := Lib.hid (show ∀ k ∈ ks ++ [1], k ≠ 0 ∧ -7 ≤ k ∧ k ≤ 7 from fun k hk => by
              rcases List.mem_append.1 hk with h | h
              · exact hkb.out k h
              · rw [List.mem_singleton.1 h]; exact hkp.out)
            have Hkl := Lib.hid (show (ks ++ [1]).length = i + 1 by rw [List.length_append, hM9]; rfl)
            have hQ : P * (1 : Int).natAbs ≤ 16807 := by have := Nat.mul_le_mul hP (show (1 : Int).natAbs ≤ 7 by omega); omega
            obtain ⟨Q, hQe⟩ : ∃ Q, Q = P * (1 : Int).natAbs := ⟨_, rfl⟩
            have HQ := Lib.hid (show (prodL (ks ++ [1])).natAbs = Q by rw [hPs.out, Int.natAbs_mul, ← HPe.out, hQe])
            rw [← hQe] at hQ
            have hQP : Q = P := by rw [hQe]; simp
            subst hQP
            have hm4 : max (1 : Int) (-1) = 1 := by decide
            clear hzl hQe
            go_wp2_with (at_builtin; refine app_mat rfl _ _ rfl rfl (HO2.out.ext ((Ext.refl _).alloc _)) rfl (b := Y.heap.size) (by go_simp) (HR2.out.ext ((Ext.refl _).alloc _)) Hz9.out (by simp; omega) ?_; intro gg cap2 w8 hO8 hB8 hG8; rw [Hzl.out, ← hzk.out] at hO8; rw [Hzl.out])
            have hE8 : Ext w3 w8 := Below.trans (hEY.alloc (.cells #[.slice sv bv cv] 35)) hB8
            have hO9 := Lib.hid hO8
            clear hG8 hB8 hO8
            go_wp2_with fail
            go_roundw
            case rel => exact ⟨i + 1, ks ++ [1], by omega, by go_num, Hkl, Hkb, by rw [HQ.out], hO9, hE8⟩
            case measure => simp [intOf] <;> omega
      · as_aux_lemma =>
        have hqb : (q == 0) = false := beq_eq_false_iff_ne.2 hq0
        have hkp : Hid (q ≠ 0 ∧ -7 ≤ q ∧ q ≤ 7) := Lib.hid ⟨hq0, hq7⟩
        go_wp2_with fail
        go_loopw [12, 13] (fun row c wr => ∃ j : Nat, j ≤ n ∧ c = .int .i64 j ∧ Hid (RowV X.heap.size wr row (scaleR q (r.take j))) ∧ Ext X wr) (fun _ c _ => n - (intOf c).toNat)
        case atStart => exact ⟨0, by omega, by go_num, Lib.hid (RowV.nil _ _), Ext.refl _⟩
        case round =>
          obtain ⟨j, hj, rfl, hRo, hEj⟩ := hrel
          generalize wr = Y at *
          have hrowY := hEj.cell hrow'
          have hYs := hEj.size
          by_cases hjn : j < n
          · have hji : (j : Int) < (n : Int) := by omega
            have hjr : j < r.length := by rw [Hrl.out]; exact hjn
            have cy := (HSr.out.ext hEj).cell j (.int .i64 (r[j])) (is_get hjr)
            obtain rfl := HSr.out.addr (by rw [is_length, Hrl.out]; omega)
            have hyb := Hrb.out _ (List.getElem_mem hjr)
            have hsn := Lib.hid (scaleR_snoc (k := q) hjr)
            obtain ⟨y, hy⟩ : ∃ y, y = r[j] := ⟨_, rfl⟩
            rw [← hy] at cy hyb hsn
            have hpb := mul_140 hkp.out.2 hyb
            obtain ⟨p, hp⟩ : ∃ p, p = q * y := ⟨_, rfl⟩
            rw [← hp] at hpb hsn
            have hpe := hp.symm
            have hsl : (scaleR q (r.take j)).length = j := by unfold scaleR; rw [List.length_map, List.length_take]; omega
            have Hsl := Lib.hid hsl
            have Hs9 := Lib.hid (show (scaleR q (r.take j)).length ≤ 1000000000 by rw [hsl]; omega)
            clear hy hp hsl
            go_wp2_with (at_builtin; refine app_int rfl _ _ 35 Tryz.underlying35 rfl rfl (hRo.out.ext ((Ext.refl _).alloc _)) rfl (b := Y.heap.size) (z := p) (by go_simp) Hs9.out (by simp; omega) ?_; intro gg cap2 w8 hO8 hB8 hG8; rw [Hsl.out, ← hsn.out] at hO8; rw [Hsl.out])
            have hE8 : Ext X w8 := Below.trans (hEj.alloc (.cells #[.int .i64 p] 3)) hB8
            have hO9 := Lib.hid hO8
            clear hG8 hB8 hO8
            go_wp2_with fail
            go_roundw
            case rel => exact ⟨j + 1, by omega, by go_num, hO9, hE8⟩
            case measure => simp [intOf] <;> omega
          · have hje : r.take j = r := List.take_of_length_le (by rw [Hrl.out]; omega)
            rw [hje] at hRo
            have hEY := hE.trans hEj
            have HO2 := Lib.hid (hO.out.ext hEj)
            have HR2 := Lib.hid (hRo.out.mono hE.size)
            have hzl : (List.zipWith scaleR ks M).length = i := by rw [List.length_zipWith, hM9]; omega
            have Hzl := Lib.hid hzl
            have Hz9 := Lib.hid (show (List.zipWith scaleR ks M).length ≤ 1000000000 by rw [hzl]; omega)
            have hszY := hEY.size
            obtain ⟨sv, bv, cv, hsv⟩ : ∃ a l c, u12 = .slice a l c := by
              rcases hRo.out.2 with ⟨h, _⟩ | ⟨g, cap, cur, h, _⟩ <;> exact ⟨_, _, _, h⟩
            subst hsv
            have hzk := Lib.hid (hzip.out q)
            have Hkb := Lib.hid (show ∀ k ∈ ks ++ [q], k ≠ 0 ∧ -7 ≤ k ∧ k ≤ 7 from fun k hk => by
              rcases List.mem_append.1 hk with h | h
              · exact hkb.out k h
              · rw [List.mem_singleton.1 h]; exact hkp.out)
            have Hkl := Lib.hid (show (ks ++ [q]).length = i + 1 by rw [List.length_append, hM9]; rfl)
            have hQ : P * (q : Int).natAbs ≤ 16807 := by have := Nat.mul_le_mul hP (show (q : Int).natAbs ≤ 7 by omega); omega
            obtain ⟨Q, hQe⟩ : ∃ Q, Q = P * (q : Int).natAbs := ⟨_, rfl⟩
            have HQ := Lib.hid (show (prodL (ks ++ [q])).natAbs = Q by rw [hPs.out, Int.natAbs_mul, ← HPe.out, hQe])
            rw [← hQe] at hQ
            have hQ1 : 0 < q → (P : Int) * q = (Q : Int) := fun h => by
              rw [hQe, Int.natCast_mul, show ((q.natAbs : Nat) : Int) = q by omega]
            have hQ2 : ¬ 0 < q → (P : Int) * (-q) = (Q : Int) := fun h => by
              rw [hQe, Int.natCast_mul, show ((q.natAbs : Nat) : Int) = -q by omega]
            clear hzl hQe
            by_cases hk0 : 0 < q
            · have hQ3 := hQ1 hk0
              have hm1 : decide (q < -q) = false := decide_eq_false (by omega)
              have hm2 : decide (-q < q) = true := decide_eq_true (by omega)
              have hm3 : -q < q := by omega
              have hm4 : max q (-q) = q := by omega
              clear hQ1 hQ2
              go_wp2_with (at_builtin; refine app_mat rfl _ _ rfl rfl (HO2.out.ext ((Ext.refl _).alloc _)) rfl (b := Y.heap.size) (by go_simp) (HR2.out.ext ((Ext.refl _).alloc _)) Hz9.out (by simp; omega) ?_; intro gg cap2 w8 hO8 hB8 hG8; rw [Hzl.out, ← hzk.out] at hO8; rw [Hzl.out])
              have hE8 : Ext w3 w8 := Below.trans (hEY.alloc (.cells #[.slice sv bv cv] 35)) hB8
              have hO9 := Lib.hid hO8
              clear hG8 hB8 hO8
              go_wp2_with fail
              go_roundw
              case rel => exact ⟨i + 1, ks ++ [q], by omega, by go_num, Hkl, Hkb, by rw [HQ.out], hO9, hE8⟩
              case measure => simp [intOf] <;> omega
            · have hQ3 := hQ2 hk0
              have hm1 : decide (q < -q) = true := decide_eq_true (by omega)
              have hm2 : decide (-q < q) = false := decide_eq_false (by omega)
              have hm3 : q < -q := by omega
              have hm4 : max q (-q) = -q := by omega
              clear hQ1 hQ2
              go_wp2_with (at_builtin; refine app_mat rfl _ _ rfl rfl (HO2.out.ext ((Ext.refl _).alloc _)) rfl (b := Y.heap.size) (by go_simp) (HR2.out.ext ((Ext.refl _).alloc _)) Hz9.out (by simp; omega) ?_; intro gg cap2 w8 hO8 hB8 hG8; rw [Hzl.out, ← hzk.out] at hO8; rw [Hzl.out])
              have hE8 : Ext w3 w8 := Below.trans (hEY.alloc (.cells #[.slice sv bv cv] 35)) hB8
              have hO9 := Lib.hid hO8
              clear hG8 hB8 hO8
              go_wp2_with fail
              go_roundw
              case rel => exact ⟨i + 1, ks ++ [q], by omega, by go_num, Hkl, Hkb, by rw [HQ.out], hO9, hE8⟩
              case measure => simp [intOf] <;> omega
    · as_aux_lemma =>
      have hie : i = M.length := by omega
      have hkl2 : ks.length = M.length := by rw [hkl.out, hie]
      obtain ⟨hpE, hin, hbig, hlaw⟩ := sub_facts HGM.out hkl2 hkb.out HF.out
      have hP := prodL_2401 hkb.out (by rw [hkl2]; exact HMl.out)
      have hFM := hnf_len HF.out (grid_form HGM.out HF.out).2.2.2.1
      have HS := Lib.hid hO.out.mat
      have HFX := Lib.hid (HFO.out.ext hE)
      obtain ⟨S, hS⟩ : ∃ S, S = List.zipWith scaleR ks M := ⟨_, rfl⟩
      rw [← hS] at hpE hin hbig hlaw HS
      obtain ⟨P, hPe⟩ : ∃ P, P = (prodL ks).natAbs := ⟨_, rfl⟩
      rw [← hPe] at hP hlaw ⊢
      have HL2 := Lib.hid (HL.out.ext (hEV3.trans hE))
      have hinc := Lib.hid (Includes_ok HFX.out HS.out hpE HL2.out)
      rw [hin] at hinc
      have hidx := Lib.hid (fun W (hW : Ext X W) => Index_ok (HFX.out.ext hW) (HS.out.ext hW) hpE hbig (HL2.out.ext hW))
      have hint := Lib.hid (fun W (hW : Ext X W) => Int07_any (n := (P : Int)) (by omega) (by omega) (HL2.out.ext hW))
      obtain ⟨st, hst⟩ : ∃ st, I (P : Int) = .string st := ⟨_, rfl⟩
      rw [hst] at hint
      have Hst := Lib.hid hst
      have Hin := Lib.hid hin
      have Hlaw := Lib.hid hlaw
      have hwX := Lib.hid (hEV3.trans hE)
      obtain ⟨sf, bf, of, cf, us, rfl, _⟩ := HFX.out
      clear hkl hkb hie hkl2 hpE hin hbig hlaw hS hPe hst hO
      go_wp2_with fail
      refine hinc.out.mono ?_
      rintro e w5 ⟨rfl, hE5⟩
      clear hinc
      go_wp2_with fail
      refine (hidx.out _ hE5).mono ?_
      rintro e w6 ⟨hIx, hE6⟩
      have hE56 := hE5.trans hE6
      rw [if_pos Hin.out] at hIx
      obtain ⟨G, hG, hIx⟩ := hIx
      have hl2 := Hlaw.out G hG
      rw [if_neg (by omega)] at hIx
      subst hIx
      by_cases hlt2 : F.length < M.length
      · have hlti : (F.length : Int) < (M.length : Int) := by omega
        have hltd : decide ((F.length : Int) < (M.length : Int)) = true := decide_eq_true hlti
        clear hidx hint hl2 hG
        obtain ⟨t, ht⟩ : ∃ t, t = I (idxN F G F.length) := ⟨_, rfl⟩
        rw [← ht]
        clear ht
        go_wp2_with fail
        go_ret
        exact ⟨rfl, hwX.out.trans hE56⟩
      · have hltd : decide ((F.length : Int) < (M.length : Int)) = false := decide_eq_false (by omega)
        have hlti : (M.length : Int) ≤ (F.length : Int) := by omega
        rw [hl2.2 (by omega), Hst.out]
        clear hidx hl2 hG
        go_wp2_with fail
        refine (hint.out _ hE56).mono ?_
        rintro e w7 ⟨rfl, hE7⟩
        go_wp2_with fail
        go_ret
        exact ⟨rfl, hwX.out.trans (hE56.trans hE7)⟩
end Go.Proofs.YthmhmkkcjlgbjaaGreatDoor
/- the description of a matrix, and four multiples, as arguments -/
namespace Go.Proofs.YthmhmkkcjlgbjaaGreatDoor
open Go.ChangeShapes Go.WideShapes Go.ChangeAt Go.WideMaps Go.WideElems Go.RowKit Go.Deep
theorem fr_cG : Tryz.prog.cellsOf 25 = 18 := by kernel_rfl
theorem fr_c16 : Tryz.prog.cellsOf 23 = 16 := by kernel_rfl
theorem fr_c4 : Tryz.prog.cellsOf 26 = 4 := by kernel_rfl
theorem fr_c8 : Tryz.prog.cellsOf 22 = 1 := by kernel_rfl
theorem fr_cu8 : Tryz.prog.cellsOf 5 = 1 := by kernel_rfl
theorem take_one {l : List Value} {k : Nat} {x : Value} (h : (l.drop k).take 1 = [x]) : l[k]? = some x := by
  have := congrArg (·[0]?) h
  simpa [List.getElem?_take] using this
theorem i8_bounds {n : Int} (h : (Lit.int .i8 n).wf = true) : -128 ≤ n ∧ n ≤ 127 := by
  simp only [Lit.wf, Bool.and_eq_true, decide_eq_true_eq] at h
  have e1 : IntKind.i8.min = -128 := by rfl
  have e2 : IntKind.i8.max = 127 := by rfl
  omega
theorem u8_bounds {n : Int} (h : (Lit.int .u8 n).wf = true) : 0 ≤ n ∧ n ≤ 255 := by
  simp only [Lit.wf, Bool.and_eq_true, decide_eq_true_eq] at h
  have e1 : IntKind.u8.min = 0 := by rfl
  have e2 : IntKind.u8.max = 255 := by rfl
  omega
theorem i8_cells {H : Type} {enc : TypeId × Value → H} {W : World} {base : Nat} {sp : Nat → Bool} {held : Bool} {fuel n : Nat} {t : TypeId} {l : List Value} {x : DataW H × List MemPlace} (ht : Tryz.prog.underlying t = some (.array n 22))
    (h : DataW.trod enc Tryz.prog W base sp held fuel t l = some x) : ∀ j, j < n → ∃ z : Int, l[j]? = some (.int .i8 z) ∧ -128 ≤ z ∧ z ≤ 127 := by
  obtain ⟨xs, m, _, _, _, hxl, hx⟩ := DataW.trod_array ht h
  intro j hj
  have h1 := hx j hj
  rw [fr_c8, Nat.mul_one, List.getElem?_eq_getElem (by omega)] at h1
  obtain ⟨z, hz, _, hw⟩ := DataW.trod_int Tryz.underlying22 h1
  exact ⟨z, take_one hz, i8_bounds hw⟩
set_option maxRecDepth 100000 in
theorem grid_open {H : Type} {enc : TypeId × Value → H} {W : World} {base : Nat} {sp : Nat → Bool} {held : Bool} {fuel : Nat} {cs : Array Value} {x : DataW H × List MemPlace} (hs : cs.size = 18)
    (h : DataW.trod enc Tryz.prog W base sp held fuel 25 cs.toList = some x) : ∃ R C, GridV cs R C := by
  obtain ⟨xs, n, _, _, _, hxl, hx⟩ := DataW.trod_struct Tryz.underlying25 h
  have hx3 : xs.length = 3 := hxl
  have h0 := hx 0 _ rfl
  have h1 := hx 1 _ rfl
  have h2 := hx 2 _ rfl
  rw [List.getElem?_eq_getElem (by omega)] at h0 h1 h2
  have h0' : DataW.trod enc Tryz.prog W base sp held n 5 ((cs.toList.drop 0).take 1) = some xs[0] := h0
  have h1' : DataW.trod enc Tryz.prog W base sp held n 5 ((cs.toList.drop 1).take 1) = some xs[1] := h1
  have h2' : DataW.trod enc Tryz.prog W base sp held n 23 ((cs.toList.drop 2).take 16) = some xs[2] := h2
  obtain ⟨r, hr, _, wr⟩ := DataW.trod_int Tryz.underlying5 h0'
  obtain ⟨c, hc, _, wc⟩ := DataW.trod_int Tryz.underlying5 h1'
  have hE := i8_cells Tryz.underlying23 h2'
  have br := u8_bounds wr
  have bc := u8_bounds wc
  have er : ((r.toNat : Nat) : Int) = r := by omega
  have ec : ((c.toNat : Nat) : Int) = c := by omega
  refine ⟨r.toNat, c.toNat, hs, ?_, ?_, fun j hj => ?_, by omega, by omega⟩
  · rw [er, ← Array.getElem?_toList]; exact take_one hr
  · rw [ec, ← Array.getElem?_toList]; exact take_one hc
  · obtain ⟨z, hz, hb⟩ := hE j hj
    rw [List.getElem?_take, if_pos hj, List.getElem?_drop] at hz
    exact ⟨z, by rw [← Array.getElem?_toList]; exact hz, hb⟩
end Go.Proofs.YthmhmkkcjlgbjaaGreatDoor
/- schismalaw07.HermiteSublattices: for every description and all multiples the law returns true, and they read as they did. No condition but what the card itself prints. -/
namespace Go.Proofs.YthmhmkkcjlgbjaaGreatDoor
open Go.ChangeShapes Go.WideShapes Go.ChangeAt Go.WideMaps Go.WideElems Go.RowKit Go.Deep
theorem okWide_arr {P : Program} {w : World} {r : Reach} {base : Nat} {t : TypeId} {v : Value} {n : Nat} {e : TypeId} (ht : P.underlying t = some (.array n e)) (h : Value.okWide P w r base t v) : ∃ cs, v = .agg cs ∧ cs.size = P.cellsOf t := by
  simp only [Value.okWide, ht] at h
  obtain ⟨cs, h1, h2, _⟩ := h
  exact ⟨cs, h1, h2⟩
theorem by_open {H : Type} {enc : TypeId × Value → H} {W : World} {base : Nat} {sp : Nat → Bool} {held : Bool} {fuel : Nat} {bs : Array Value} {x : DataW H × List MemPlace} (hs : bs.size = 4)
    (h : DataW.trod enc Tryz.prog W base sp held fuel 26 bs.toList = some x) : ByV bs := by
  refine ⟨hs, fun j hj => ?_⟩
  obtain ⟨z, hz, hb⟩ := i8_cells Tryz.underlying26 h j hj
  exact ⟨z, by rw [← Array.getElem?_toList]; exact hz, hb⟩
set_option maxRecDepth 100000 in
set_option maxHeartbeats 2000000 in
theorem subs_lifted (os : Os) (started : os.Started) (H : Type) (enc : TypeId × Value → H) :
    ReturnsInHanded {} Tryz.checked os 3 .any (fun w args => (Rows.hermiteSublatticesSpec.pre enc Tryz.prog Tryz.f3 [] false w args ∧ laidMetH Tryz.prog fr_list w) ∧ sizedMet enc Tryz.prog Tryz.f3 (OpenSpec.ofChange Rows.hermiteSublatticesSpec) false w args)
      (Rows.hermiteSublatticesSpec.post enc Tryz.prog Tryz.f3 false true false false) := by
  refine returnsInHanded_of_change_and (C := Tryz.checked) (X := fun w _ => laidMetH Tryz.prog fr_list w) (fun _ _ _ hh h => h.of_heap hh) fr_own started (by kernel_rfl) Tryz.func3
    (ChangeSpec.witness_shaped (enc := enc) (C := Tryz.checked) (os := os) (X := fun w _ => laidMetH Tryz.prog fr_list w) false (World.doorLaid Tryz.prog 400 os) #[.agg #[.int .u8 0, .int .u8 0, .int .i8 0, .int .i8 0, .int .i8 0, .int .i8 0, .int .i8 0, .int .i8 0, .int .i8 0, .int .i8 0, .int .i8 0, .int .i8 0, .int .i8 0, .int .i8 0, .int .i8 0, .int .i8 0, .int .i8 0, .int .i8 0], .agg #[.int .i8 0, .int .i8 0, .int .i8 0, .int .i8 0]] 8 rfl (World.shaped_of_RefB (by kernel_rfl) (by kernel_rfl)) (by kernel_rfl) (by kernel_rfl) (by kernel_rfl) (door_met os _)) ?_
  intro W base args ds gs before hval0 hW _ _ hL _
  have hval : ∀ (j : Nat) t v, Tryz.f3.params[j]? = some t → args[j]? = some v → Value.okWide Tryz.prog W .any base t v := hval0
  have hW' := hW
  obtain ⟨p, q, hA0, hV, rfl, hfz, hnd⟩ := hW
  have hA : DataW.TrodAll enc Tryz.prog W 0 (fun _ => true) true Tryz.f3.params.toList args.toList ds p := hA0
  rw [Tryz.params3] at hA hval
  obtain ⟨v0, v1, d0, d1, p0, p1, rfl, rfl, rfl, h0, h1⟩ := trodAll_two hA
  obtain ⟨rfl, rfl⟩ := trodVars_none hV
  obtain ⟨cs, rfl, hs0⟩ := okWide_struct Tryz.underlying25 (hval 0 25 v0 rfl rfl)
  obtain ⟨bs, rfl, hs1⟩ := okWide_arr Tryz.underlying26 (hval 1 26 v1 rfl rfl)
  rw [fr_cG] at hs0
  rw [fr_c4] at hs1
  have h0k := h0
  have h1k := h1
  obtain ⟨fuel0, hf0⟩ := h0
  obtain ⟨fuel1, hf1⟩ := h1
  obtain ⟨R, C, hG⟩ := grid_open hs0 hf0
  have hB := by_open hs1 hf1
  clear hA0 hval0 hf0 hf1
  simp only [List.append_nil] at hW'
  have hlt : ∀ x ∈ p0 ++ p1, x.block < W.heap.size := fun x hx => by simpa using hW'.lt x hx
  refine (subs_walk hG hB (laid_of hL)).mono ?_
  rintro e W' ⟨rfl, hE⟩
  have e1 : Rows.hermiteSublatticesSpec.fn H ([d0, d1] ++ []) = { results := [.lit (.bool true)], args := [d0, d1] } := rfl
  refine ⟨_, rfl, _, _, _, [], p0 ++ p1, [], hW', ?_, ?_, ?_, hE.frame _, fun h => by cases h⟩
  · rw [e1]; exact trodAll_mk1 (shut_bool Tryz.underlying4 true)
  · rw [e1]; exact trodAll_mk2 (Below.trod fr_laidOut (by kernel_rfl) (of_decide_eq_true (by kernel_rfl)) h0k hE fun x hx => hlt x (List.mem_append_left _ hx)) (Below.trod fr_laidOut (by kernel_rfl) (of_decide_eq_true (by kernel_rfl)) h1k hE fun x hx => hlt x (List.mem_append_right _ hx))
  · rw [e1]; rfl
theorem subs_holds : Rows.HermiteSublatticesSaid :=
  OpenClaim.holds_of_wide 3 Tryz.f3 rfl rfl rfl rfl rfl rfl rfl ⟨rfl, rfl, rfl, rfl, rfl⟩ rfl rfl rfl rfl rfl (by kernel_rfl) Tryz.func3 (by kernel_rfl)
    (of_decide_eq_true (by kernel_rfl)) (by unfold Func.isWrapper; first | (rw [if_pos (by decide +kernel)]; kernel_rfl) | (rw [if_neg (by decide +kernel)]; exact ⟨rfl, rfl⟩))
    (fun os started H enc _ => subs_lifted os started H enc)
theorem hermiteSublattices_card : Rows.HermiteSublatticesCardSaid :=
  Claim7.holds_tied_plain_at .later [] [.data, .data, .data, .sentinel, .sentinel] true Rows.hermiteSublatticesCard.stood.harness true
    subs_holds (fun _ h => by cases h) (by kernel_rfl) (fun _ h => by cases h) hermiteSublattices_row_tie rfl ⟨rfl, rfl⟩ (by kernel_rfl) rfl
    (fun f fn hf hfn => by
      obtain rfl : f = 3 := Option.some.inj ((show Tryz.prog.funcNamed "schisma/schismalaw07.HermiteSublattices" = some 3 by kernel_rfl).symm.trans hf) |>.symm
      obtain rfl : fn = Tryz.f3 := (Option.some.inj (Tryz.func3.symm.trans hfn)).symm
      exact ⟨by kernel_rfl, fun j t ht => by
        rw [Tryz.params3] at ht
        have hm : t ∈ [25, 26] := by simpa using Array.mem_of_getElem? ht
        have hall : ([25, 26].all fun u => !Tryz.prog.wantsStandIn u) = true := by kernel_rfl
        exact (show Tryz.prog.wantsStandIn t = false by simpa using List.all_eq_true.1 hall t hm)⟩)
    (by kernel_rfl)
#print axioms hermiteSublattices_card
end Go.Proofs.YthmhmkkcjlgbjaaGreatDoor
