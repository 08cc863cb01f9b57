/- Part 23 of the proof of the claim: contracts of the functions that it reaches, and plain laws; no condition. -/
import Derived.Test.YthmhmkkcjlgbjaaGreatDoorV19
import Derived.Test.YthmhmkkcjlgbjaaGreatDoorV22
import Derived.Test.YthmhmkkcjlgbjaaGreatDoorV18
import Derived.Test.YthmhmkkcjlgbjaaGreatDoorV08
import Derived.OrdersHeld
/- facts on described matrices -/
namespace Go.Proofs.YthmhmkkcjlgbjaaGreatDoor
open Go.RowKit Go.Sort
open Hnf (Span V)
theorem bC_mono2 {k : Nat} : ∀ {c c' L L' : Nat}, c ≤ c' → L ≤ L' → bC L k c ≤ bC L' k c' := by
  have h1 : ∀ c L L', L ≤ L' → bC L k c ≤ bC L' k c := fun c L L' h => by
    induction c with
    | zero => exact Nat.le_refl _
    | succ c ih => rw [bC, bC]; have := Nat.mul_le_mul ih (show L + 2 ≤ L' + 2 by omega); omega
  intro c c' L L' hc hL
  refine Nat.le_trans (h1 c L L' hL) ?_
  obtain ⟨d, rfl⟩ : ∃ d, c' = c + d := ⟨c' - c, by omega⟩
  clear hc
  induction d with
  | zero => exact Nat.le_refl _
  | succ d ih => exact Nat.le_trans ih (bC_le L' k (c + d)).2
theorem bC_5 : 13 * (bC 5 30 5 + 2) < LIM := by decide
theorem bC_lim {L c : Nat} (hL : L ≤ 5) (hc : c ≤ 5) : 13 * (bC L 30 c + 2) < LIM := by
  have := bC_mono2 (k := 30) hc hL
  have := bC_5
  omega
theorem check_rect {M : Mx} {n : Nat} (hl : M.length ≤ 12) (hn : n ≤ 12) (hR : Rect n M) (he : ∀ r ∈ M, ∀ z ∈ r, -1000000000 ≤ z ∧ z ≤ 1000000000) : checkM M = 0 := by
  unfold checkM
  rw [if_neg (by omega)]
  refine chk_all _ _ fun j hj => ?_
  have hj' := hR _ (List.getElem_mem hj)
  have h0 : (M.getD 0 []).length = n := by rw [getD_get (by omega)]; exact hR _ (List.getElem_mem _)
  have ha : M[j].any grt = false := by
    cases h : M[j].any grt
    · rfl
    · obtain ⟨z, hz, hg⟩ := List.any_eq_true.1 h
      have := he _ (List.getElem_mem hj) z hz
      unfold grt at hg
      have := of_decide_eq_true hg
      omega
  unfold chkR
  rw [if_neg (by omega), if_neg (by omega), ha]; rfl
theorem ncols_of {M : Mx} {n : Nat} (hR : Rect n M) (h0 : 0 < M.length) : ncols M = n := by
  unfold ncols; rw [getD_get h0]; exact hR _ (List.getElem_mem _)
theorem ncols_le {M : Mx} {n : Nat} (hR : Rect n M) : ncols M ≤ n := by
  rcases Nat.eq_zero_or_pos M.length with h | h
  · rw [List.eq_nil_of_length_eq_zero h]; exact Nat.zero_le _
  · rw [ncols_of hR h]; exact Nat.le_refl _
theorem rect_ncols {M : Mx} {n : Nat} (hR : Rect n M) : Rect (ncols M) M := fun r hr => by
  rw [ncols_of hR (List.length_pos_of_mem hr)]; exact hR r hr
theorem gridM_rect {M : Mx} (h : GridM M) : Rect (ncols M) M ∧ ncols M ≤ 4 ∧ M.length ≤ 4 ∧ checkM M = 0 := by
  obtain ⟨hl, n, _, hn, hR, he⟩ := h
  exact ⟨rect_ncols hR, Nat.le_trans (ncols_le hR) hn, hl, check_rect (by omega) (by omega) hR fun r hr z hz => by have := he r hr z hz; omega⟩
theorem isH_len {n : Nat} {ps : List Nat} {F : Mx} (h : IsH n ps F) (hn : n ≤ 4) : F.length ≤ 4 := by
  rcases Nat.lt_or_ge 4 F.length with h' | h'
  · have a0 := h.inc 0 1 (by omega) (by omega)
    have a1 := h.inc 1 2 (by omega) (by omega)
    have a2 := h.inc 2 3 (by omega) (by omega)
    have a3 := h.inc 3 4 (by omega) (by omega)
    have a4 := h.lt 4 (by omega)
    omega
  · exact h'
/-- The form of a described matrix is right, in normal form, and within the limit. -/
theorem grid_form {M F : Mx} (h : GridM M) (hF : HnfOf (ncols M) M F) : smallM F = true ∧ checkM F = 0 ∧ isF F = true ∧ F.length ≤ 4 ∧ Rect (ncols M) F := by
  obtain ⟨hR, hn, hl, _⟩ := gridM_rect h
  have hb := hnf_small hn (fun r hr z hz => by obtain ⟨_, n, _, _, _, he⟩ := h; have := he r hr z hz; omega) hF
  obtain ⟨⟨ps, hI⟩, _, _⟩ := hF
  have hb2 : ∀ r ∈ F, ∀ z ∈ r, -1000000000 ≤ z ∧ z ≤ 1000000000 := fun r hr z hz => by
    obtain ⟨i, hi, rfl⟩ := List.getElem_of_mem hr
    obtain ⟨j, hj, rfl⟩ := List.getElem_of_mem hz
    have := hb i hi j
    unfold eM at this
    rw [getD_get hi [], getD_get hj 0] at this
    omega
  have h4 := isH_len hI hn
  exact ⟨List.all_eq_true.2 fun r hr => smallB_iff.2 (hb2 r hr), check_rect (by omega) (by omega) hI.rect hb2, isH_isF hI, h4, hI.rect⟩
def scaleR (k : Int) (r : List Int) : List Int := r.map fun z => k * z
theorem scale_vr (k : Int) (r : List Int) : vr (scaleR k r) = mulV k (vr r) := by
  funext j
  show (scaleR k r).getD j 0 = k * r.getD j 0
  unfold scaleR
  rw [List.getD_eq_getElem?_getD, List.getD_eq_getElem?_getD, List.getElem?_map]
  cases r[j]? <;> simp
theorem scale_lat {ks : List Int} {M : Mx} : latM (List.zipWith scaleR ks M) = List.zipWith mulV ks (latM M) := by
  unfold latM
  rw [List.map_zipWith, List.zipWith_map_right]
  congr 1
  funext k r
  exact scale_vr k r
theorem sub_facts {M F : Mx} {ks : List Int} (h : GridM M) (hl : ks.length = M.length) (hk : ∀ k ∈ ks, k ≠ 0 ∧ -7 ≤ k ∧ k ≤ 7) (hF : HnfOf (ncols M) M F) :
    pairE F (List.zipWith scaleR ks M) = 0 ∧ inclB F (List.zipWith scaleR ks M) = true ∧ 13 * (bC (List.zipWith scaleR ks M).length 30 (ncols (List.zipWith scaleR ks M)) + 2) < LIM ∧
      ∀ G, HnfOf (ncols (List.zipWith scaleR ks M)) (List.zipWith scaleR ks M) G → F.length ≤ G.length ∧ (F.length = M.length → idxN F G F.length = (prodL ks).natAbs) := by
  obtain ⟨hR, hn, hm, _⟩ := gridM_rect h
  obtain ⟨_, hcF, hiF, hF4, hRF⟩ := grid_form h hF
  obtain ⟨S, hS⟩ : ∃ S, S = List.zipWith scaleR ks M := ⟨_, rfl⟩
  rw [← hS]
  have hSl : S.length = M.length := by rw [hS, List.length_zipWith]; omega
  have hmem : ∀ r ∈ S, r.length = ncols M ∧ ∀ z ∈ r, -1000000000 ≤ z ∧ z ≤ 1000000000 := fun r hr => by
    rw [hS] at hr
    obtain ⟨i, hi, rfl⟩ := List.getElem_of_mem hr
    rw [List.length_zipWith] at hi
    rw [List.getElem_zipWith]
    refine ⟨by unfold scaleR; rw [List.length_map]; exact hR _ (List.getElem_mem _), fun z hz => ?_⟩
    obtain ⟨y, hy, rfl⟩ := List.mem_map.1 hz
    obtain ⟨_, _, _, _, _, he⟩ := h
    have h1 := he _ (List.getElem_mem _) y hy
    have h2 := (hk ks[i] (List.getElem_mem _)).2
    generalize ks[i] = k at *
    have : (k * y).natAbs ≤ 7 * 20 := by rw [Int.natAbs_mul]; exact Nat.mul_le_mul (by omega) (by omega)
    omega
  have hRS : Rect (ncols M) S := fun r hr => (hmem r hr).1
  have hcS := check_rect (by omega) (by omega) hRS fun r hr => (hmem r hr).2
  have hlat : latM S = List.zipWith mulV ks (latM M) := by rw [hS, scale_lat]
  have hnS : ncols S = ncols M := by
    rcases Nat.eq_zero_or_pos M.length with h0 | h0
    · rw [List.eq_nil_of_length_eq_zero h0, List.eq_nil_of_length_eq_zero (hSl.trans h0)]
    · exact ncols_of hRS (by omega)
  refine ⟨?_, ?_, bC_lim (by omega) (by omega), fun G hG => ?_⟩
  · unfold pairE
    rw [if_pos hcF, if_pos hcS, if_pos hiF, if_neg]
    rintro ⟨a, _, c⟩
    exact c ((ncols_of hRF a).trans hnS.symm)
  · refine inclB_iff.2 fun x hx => ?_
    obtain ⟨⟨ps, hI⟩, _, h2⟩ := hF
    refine zeroB_iff.2 ((redX_zero hI (hRS x hx)).2 ?_)
    have : vr x ∈ latM S := List.mem_map.2 ⟨x, hx, rfl⟩
    rw [hlat] at this
    exact (scale_span _ this).trans h2
  · rw [hnS] at hG
    exact sub_law hn hm hl (fun k hk' => (hk k hk').1) hlat hF hG
theorem Int07_any {n : Int} (h0 : -9223372036854775808 ≤ n) (h1 : n ≤ 9223372036854775807) {w : World} (hL : Laid w) :
    Calls Tryz.prog 15 #[.int .i64 n] w fun e w' => e = .returned (I n) ∧ Ext w w' := by
  have H := Lib.hid (Itoa_any h0 h1 hL)
  clear hL
  go_enter Tryz.func15, Tryz.ntmps15
  go_wp2_with fail
  refine H.out.mono ?_
  rintro e w1 ⟨rfl, hE⟩
  go_wp2_with fail
  go_ret
  exact ⟨rfl, hE⟩
end Go.Proofs.YthmhmkkcjlgbjaaGreatDoor
/- schismaref03: To, Of -/
namespace Go.Proofs.YthmhmkkcjlgbjaaGreatDoor
open Go.RowKit Go.Sort
theorem atoi_digits {M : List UInt8} (hd : ∀ c ∈ M, isDig c) (hne : M ≠ []) (hl : M.length ≤ 9) : Lib.atoiAll M = .ok (valB 0 M : Int) := by
  have hv := valB_lt M hd
  have hp9 : 10 ^ M.length ≤ 10 ^ 9 := Nat.pow_le_pow_right (by omega) hl
  have hp : Lib.parseMag M = .ok (valB 0 M) := by
    unfold Lib.parseMag
    rw [if_neg hne, pU_ok _ 0 hd (by omega)]
  match M, hne, hd with
  | c :: t, _, hd =>
    have hc := hd c (by simp)
    have hs1 : ¬ (c.toNat = 43 ∨ c.toNat = 45) := by unfold isDig at hc; omega
    have hs2 : ¬ c.toNat = 45 := fun h => hs1 (.inr h)
    unfold Lib.atoiAll
    simp only [if_neg hs1, hp]; simp only [hs2, not_false_iff, true_and, false_and, if_false]
    rw [if_neg (by omega)]
theorem RowV.box {B B' : Nat} {w w' : World} {v : Value} {r : List Int} {g : Nat} {xs : List Value} (h : RowV B w v r) (hO : OwnV 66 B' w g 2 xs) (hG : w.grownBy w' (some g)) : RowV B w' v r := by
  unfold RowV at *
  have h2 : w.ownsRow B' 66 1 (slv g xs.length 2) xs.length xs := hO
  exact own_kept h h2 (by decide) hG
theorem S_take (L : List UInt8) (f : Nat) : Value.string ((⟨L.toArray⟩ : ByteArray).extract 0 f) = S (L.take f) := by
  congr 1
  rw [ByteArray.extract_mk]
  simp
theorem size_le {s : ByteArray} {M : List UInt8} (h : s.data.toList = M) (hl : M.length ≤ 9) : s.size ≤ 9223372036854775806 := by
  have : s.size = M.length := by rw [← h, Array.length_toList]; rfl
  omega
theorem at_ext {w w' : World} (h : w' = w ∨ ∃ t, w' = Lib.bytesWorld w 5 t) : Ext w w' := by
  rcases h with rfl | ⟨t, rfl⟩
  · exact Ext.refl _
  · exact ext_bytesWorld _ _ _
/-- A box is not the block of a row of ints. -/
theorem own_box {B B' : Nat} {w w' : World} {v : Value} {r : List Int} {g : Nat} {xs : List Value} (hO : OwnV 66 B' w g 2 xs) (h : RowV B w v r) (hG : w.grownBy w' v.ownBlock) : OwnV 66 B' w' g 2 xs := by
  have h2 : w.ownsRow B' 66 1 (slv g xs.length 2) xs.length xs := hO
  exact own_kept h2 h (by decide) hG
set_option maxRecDepth 100000 in
set_option maxHeartbeats 4000000 in
theorem to_w {z : Int} (hn : nd z ≤ 1000000000) {w : World} : Calls Tryz.prog 102 #[I z] w (WhPost w z) := by
  obtain ⟨l, hl⟩ : ∃ l, l = Lib.decDigits z.natAbs := ⟨_, rfl⟩
  have hll : l.length ≤ 1000000000 := by rw [hl, Lib.decDigits_length]; exact hn
  have hhp := Lib.hid (fun (s : ByteArray) (w : World) => Tryz.strings_HasPrefix s ⟨#[45]⟩ w)
  have hdg : ∀ c ∈ l, isDig c := by rw [hl]; exact dec_dig _
  by_cases hz : z < 0
  · have hI : I z = S (45 :: l) := by unfold I; rw [itoa_neg hz, ← hl]
    rw [hI]
    have hpre : Lib.hasPrefix (⟨(45 :: l).toArray⟩ : ByteArray).data.toList (⟨#[45]⟩ : ByteArray).data.toList = true := by simp [Lib.hasPrefix, List.isPrefixOf]
    have hh := Lib.hid (hhp.out ⟨(45 :: l).toArray⟩)
    rw [hpre] at hh
    have hsg := Lib.hid (show sgn true z.natAbs = z by unfold sgn; rw [if_pos rfl]; omega)
    have Hdg := Lib.hid hdg
    have Hl := Lib.hid hl
    have hEw := ((Ext.refl w).alloc (.cells #[.bool false, .slice none 0 0] 66)).alloc (.cells #[.bool true, .slice none 0 0] 66)
    have hb1 := Lib.hid ((own_alloc w 66 (.bool false) (.slice none 0 0)).ext ((Ext.refl _).alloc (.cells #[.bool true, .slice none 0 0] 66)))
    have hb2 := Lib.hid ((own2 w 66 (.bool false) (.slice none 0 0) (.bool true) (.slice none 0 0)).2.2)
    have hs1 := Lib.hid (S_extract1 45 l (l.length + 1) rfl)
    clear hhp hpre hI hdg hl hz
    go_enter Tryz.func102, Tryz.ntmps102
    go_wp2_with fail
    refine (hh.out _).mono ?_
    rintro e w1 ⟨rfl, hw⟩
    have hw' := hw.symm
    clear hw
    subst hw'
    clear hh
    go_wp2_with fail
    try rw [hs1.out]
    generalize hVV : ((w.alloc (.cells #[.bool false, .slice none 0 0] 66)).alloc (.cells #[.bool true, .slice none 0 0] 66)) = V at *
    clear hVV
    go_loopw [3] (fun tv wr => ∃ (k : Nat) (L : List UInt8) (dv : Value), 9 * k < l.length + 9 ∧ tv = S L ∧ Hid (L = l.take (l.length - 9 * k)) ∧ L.length + 9 * k ≤ 2000000000 ∧ Hid (OwnV 66 w.heap.size wr (w.heap.size + 1) 2 [.bool true, dv]) ∧ Hid (OwnV 66 w.heap.size wr w.heap.size 2 [.bool false, .slice none 0 0]) ∧ Hid (RowV w.heap.size wr dv (nz (pcl z.natAbs k))) ∧ Ext w wr) (fun tv _ => match tv with | .string s => s.size | _ => 0)
    case atStart => exact ⟨0, l, .slice none 0 0, by omega, rfl, Lib.hid (by rw [Nat.mul_zero, Nat.sub_zero, List.take_length]), by omega, hb2, hb1, Lib.hid (by unfold pcl; exact RowV.nil _ _), hEw⟩
    case round =>
      obtain ⟨k, L, dv, hk, rfl, hL, hL9, hO, hR, hD, hE⟩ := hrel
      generalize wr = X at *
      have hsh := row_shape hD.out.row
      obtain ⟨sd, nd1, cd, rfl⟩ := hsh
      have d0 : X.cell? ⟨w.heap.size + 1, 0, none⟩ = some (.bool true) := hO.out.cell (j := 0) (by simp)
      have d1 : X.cell? ⟨w.heap.size + 1, 1, none⟩ = some (.slice sd nd1 cd) := hO.out.cell (j := 1) (by simp)
      have hXs := hR.out.lt
      have hXs1 := hO.out.lt
      have hLl : L.length = l.length - 9 * k := by rw [hL.out, List.length_take]; omega
      by_cases hpos : 0 < L.length
      · have hpi : (0 : Int) < (L.length : Int) := by omega
        obtain ⟨f, hf⟩ : ∃ f, f = L.length - 9 := ⟨_, rfl⟩
        have hmx : max (0 : Int) ((L.length : Int) - 9) = (f : Int) := by omega
        have hfL : f ≤ L.length := by omega
        have hfi : (f : Int) ≤ (L.length : Int) := by omega
        obtain ⟨M, hM⟩ : ∃ M, M = L.drop f := ⟨_, rfl⟩
        have hMl : M.length ≤ 9 := by rw [hM, List.length_drop]; omega
        have hMne : M ≠ [] := fun e => by
          have := congrArg List.length e
          rw [hM, List.length_drop, List.length_nil] at this; omega
        have hMd : ∀ c ∈ M, isDig c := fun c hc => by
          rw [hM] at hc
          have := List.mem_of_mem_drop hc
          rw [hL.out] at this
          exact Hdg.out c (List.mem_of_mem_take this)
        have hMv : valB 0 M = z.natAbs / 1000000000 ^ k % 1000000000 := by
          have := cut_piece z.natAbs k L.length (by rw [← Hl.out]; omega)
          rw [← this, hM, hL.out, ← Hl.out, List.length_take, Nat.min_eq_left (by omega), List.drop_take, hf, hLl]
        have hv9 : valB 0 M < 1000000000 := by rw [hMv]; exact Nat.mod_lt _ (by omega)
        have hat := Lib.hid (fun (s : ByteArray) (hs : s.data.toList = M) (W : World) => Tryz.strconv_Atoi_ok s (size_le hs hMl) (valB 0 M : Int) (by rw [hs]; exact atoi_digits hMd hMne hMl) W)
        obtain ⟨d, hd⟩ : ∃ d, d = valB 0 M := ⟨_, rfl⟩
        rw [← hd] at hat hMv hv9
        have HMv := Lib.hid (show pcl z.natAbs (k + 1) = pcl z.natAbs k ++ [d] by rw [pcl_succ, hMv])
        have HM := Lib.hid hM
        have hL2 := Lib.hid (show L.take f = l.take (l.length - 9 * (k + 1)) by rw [hL.out, List.take_take]; congr 1; omega)
        have Hlk := Lib.hid hLl
        have hnl := Lib.hid (show (nz (pcl z.natAbs k)).length ≤ 1000000000 by rw [nz_length, pcl_length]; omega)
        have Hf := Lib.hid hf
        clear hd hM hMl hMne hMd hMv hf hLl
        go_wp2_with fail
        refine (hat.out _ ?_ _).mono ?_
        · rw [Lib.extract_data, HM.out]
          exact List.take_of_length_le (by simp)
        rintro e w1 ⟨rfl, hb1⟩
        have hE1 : Ext X w1 := at_ext hb1
        clear hb1
        have HO1 := Lib.hid (hO.out.ext hE1)
        have HR1 := Lib.hid (hR.out.ext hE1)
        have HD1 := Lib.hid (hD.out.ext hE1)
        have c1 := hE1.cell d1
        have hs1 := hE1.size
        go_wp2_with (first
          | (at_builtin; refine app_int rfl _ _ 34 Tryz.underlying34 rfl rfl (HD1.out.ext ((Ext.refl _).alloc _)) rfl (b := w1.heap.size) (z := (d : Int)) (by go_simp) hnl.out (by simp; omega) ?_; intro gg cap2 w8 hO8 hB8 hG8; rw [← nz_snoc, ← HMv.out, nz_length, pcl_length] at hO8; rw [nz_length, pcl_length]; have hE8 : Ext w w8 := Ext.mk' (Below.trans ((hE.trans hE1).alloc (.cells #[.int .i64 (d : Int)] 3)) hB8); have HO8 := Lib.hid hO8; have hAl := ((Ext.refl w1).alloc (.cells #[.int .i64 (d : Int)] 3)); have hOb := own_box (HO1.out.ext hAl) (HD1.out.ext hAl) hG8; have hRb := own_box (HR1.out.ext hAl) (HD1.out.ext hAl) hG8; have f1 := hOb.frozen 1; have e1 := hOb.cell (j := 1) (by simp); obtain ⟨hOs, hGs⟩ := hOb.set 1 (slv gg (k + 1) cap2); have HOs := Lib.hid hOs; have HRs := Lib.hid (hRb.other hGs (by omega)); have HDs := Lib.hid (HO8.out.box hOb hGs); have hEs := Lib.hid (ext_trans_grown hE8 hGs (by omega)); clear hO8 hB8 hG8 hOb hRb hOs hGs))
        go_roundw
        case rel => exact ⟨k + 1, L.take f, _, by have := Hlk.out; omega, S_take _ _, hL2, by rw [List.length_take]; have := Hf.out; omega, HOs, HRs, HDs, hEs.out⟩
        case measure =>
          have := Hf.out
          simp [ByteArray.size]
          omega
      · have hL0 : L.length = 0 := by omega
        have hnp : ¬ (0 : Int) < (L.length : Int) := by omega
        have hv : vP (pcl z.natAbs k) = z.natAbs := by
          rw [vP_pcl, Nat.mod_eq_of_lt]
          refine Nat.lt_of_lt_of_le (Lib.lt_pow_nDigits z.natAbs) ?_
          rw [show (1000000000 : Nat) = 10 ^ 9 from rfl, ← Nat.pow_mul]
          refine Nat.pow_le_pow_right (by omega) ?_
          rw [← Lib.decDigits_length, ← Hl.out]; omega
        have ht := trim_v (b := true) hD.out.dg (by rw [pcl_length]; omega) (pcl_small _ _)
        rw [hv, hsg.out] at ht
        have Ht := Lib.hid ht
        clear ht hv hL0 hLl
        go_wp2_with fail
        refine Ht.out.mono ?_
        rintro e w5 ⟨v, rfl, hv, hE5⟩
        obtain ⟨bz, sv, n, cv, rfl, q0, q1, q2, q3, r0, r1, hfin, _⟩ := res_end (hE.trans hE5) (Nat.le_refl _) (hR.out.ext hE5) hv
        clear hv Ht
        go_wp2_with fail
        refine bodyPost_ret (v := .agg #[.bool bz, .slice sv n cv]) (by simp [results, Tryz.results102, go_sem, r0, r1]) rfl hfin.out
  · have hI : I z = S l := by unfold I; rw [itoa_pos (by omega), ← hl]
    rw [hI]
    have hpre : Lib.hasPrefix (⟨l.toArray⟩ : ByteArray).data.toList (⟨#[45]⟩ : ByteArray).data.toList = false := by
      match l, hdg with
      | [], _ => rfl
      | c :: t, hdg =>
        have hc := hdg c (by simp)
        have : ¬ 45 = c := fun e => by subst e; unfold isDig at hc; exact absurd hc.1 (by decide)
        simp [Lib.hasPrefix, List.isPrefixOf, this]
    have hh := Lib.hid (hhp.out ⟨l.toArray⟩)
    rw [hpre] at hh
    have hsg := Lib.hid (show sgn false z.natAbs = z by unfold sgn; rw [if_neg (by decide)]; omega)
    have Hdg := Lib.hid hdg
    have Hl := Lib.hid hl
    have hEw := ((Ext.refl w).alloc (.cells #[.bool false, .slice none 0 0] 66)).alloc (.cells #[.bool false, .slice none 0 0] 66)
    have hb1 := Lib.hid ((own_alloc w 66 (.bool false) (.slice none 0 0)).ext ((Ext.refl _).alloc (.cells #[.bool false, .slice none 0 0] 66)))
    have hb2 := Lib.hid ((own2 w 66 (.bool false) (.slice none 0 0) (.bool false) (.slice none 0 0)).2.2)
    clear hhp hpre hI hdg hl hz
    go_enter Tryz.func102, Tryz.ntmps102
    go_wp2_with fail
    refine (hh.out _).mono ?_
    rintro e w1 ⟨rfl, hw⟩
    have hw' := hw.symm
    clear hw
    subst hw'
    clear hh
    go_wp2_with fail
    generalize hVV : ((w.alloc (.cells #[.bool false, .slice none 0 0] 66)).alloc (.cells #[.bool false, .slice none 0 0] 66)) = V at *
    clear hVV
    go_loopw [3] (fun tv wr => ∃ (k : Nat) (L : List UInt8) (dv : Value), 9 * k < l.length + 9 ∧ tv = S L ∧ Hid (L = l.take (l.length - 9 * k)) ∧ L.length + 9 * k ≤ 2000000000 ∧ Hid (OwnV 66 w.heap.size wr (w.heap.size + 1) 2 [.bool false, dv]) ∧ Hid (OwnV 66 w.heap.size wr w.heap.size 2 [.bool false, .slice none 0 0]) ∧ Hid (RowV w.heap.size wr dv (nz (pcl z.natAbs k))) ∧ Ext w wr) (fun tv _ => match tv with | .string s => s.size | _ => 0)
    case atStart => exact ⟨0, l, .slice none 0 0, by omega, rfl, Lib.hid (by rw [Nat.mul_zero, Nat.sub_zero, List.take_length]), by omega, hb2, hb1, Lib.hid (by unfold pcl; exact RowV.nil _ _), hEw⟩
    case round =>
      obtain ⟨k, L, dv, hk, rfl, hL, hL9, hO, hR, hD, hE⟩ := hrel
      generalize wr = X at *
      have hsh := row_shape hD.out.row
      obtain ⟨sd, nd1, cd, rfl⟩ := hsh
      have d0 : X.cell? ⟨w.heap.size + 1, 0, none⟩ = some (.bool false) := hO.out.cell (j := 0) (by simp)
      have d1 : X.cell? ⟨w.heap.size + 1, 1, none⟩ = some (.slice sd nd1 cd) := hO.out.cell (j := 1) (by simp)
      have hXs := hR.out.lt
      have hXs1 := hO.out.lt
      have hLl : L.length = l.length - 9 * k := by rw [hL.out, List.length_take]; omega
      by_cases hpos : 0 < L.length
      · have hpi : (0 : Int) < (L.length : Int) := by omega
        obtain ⟨f, hf⟩ : ∃ f, f = L.length - 9 := ⟨_, rfl⟩
        have hmx : max (0 : Int) ((L.length : Int) - 9) = (f : Int) := by omega
        have hfL : f ≤ L.length := by omega
        have hfi : (f : Int) ≤ (L.length : Int) := by omega
        obtain ⟨M, hM⟩ : ∃ M, M = L.drop f := ⟨_, rfl⟩
        have hMl : M.length ≤ 9 := by rw [hM, List.length_drop]; omega
        have hMne : M ≠ [] := fun e => by
          have := congrArg List.length e
          rw [hM, List.length_drop, List.length_nil] at this; omega
        have hMd : ∀ c ∈ M, isDig c := fun c hc => by
          rw [hM] at hc
          have := List.mem_of_mem_drop hc
          rw [hL.out] at this
          exact Hdg.out c (List.mem_of_mem_take this)
        have hMv : valB 0 M = z.natAbs / 1000000000 ^ k % 1000000000 := by
          have := cut_piece z.natAbs k L.length (by rw [← Hl.out]; omega)
          rw [← this, hM, hL.out, ← Hl.out, List.length_take, Nat.min_eq_left (by omega), List.drop_take, hf, hLl]
        have hv9 : valB 0 M < 1000000000 := by rw [hMv]; exact Nat.mod_lt _ (by omega)
        have hat := Lib.hid (fun (s : ByteArray) (hs : s.data.toList = M) (W : World) => Tryz.strconv_Atoi_ok s (size_le hs hMl) (valB 0 M : Int) (by rw [hs]; exact atoi_digits hMd hMne hMl) W)
        obtain ⟨d, hd⟩ : ∃ d, d = valB 0 M := ⟨_, rfl⟩
        rw [← hd] at hat hMv hv9
        have HMv := Lib.hid (show pcl z.natAbs (k + 1) = pcl z.natAbs k ++ [d] by rw [pcl_succ, hMv])
        have HM := Lib.hid hM
        have hL2 := Lib.hid (show L.take f = l.take (l.length - 9 * (k + 1)) by rw [hL.out, List.take_take]; congr 1; omega)
        have Hlk := Lib.hid hLl
        have hnl := Lib.hid (show (nz (pcl z.natAbs k)).length ≤ 1000000000 by rw [nz_length, pcl_length]; omega)
        have Hf := Lib.hid hf
        clear hd hM hMl hMne hMd hMv hf hLl
        go_wp2_with fail
        refine (hat.out _ ?_ _).mono ?_
        · rw [Lib.extract_data, HM.out]
          exact List.take_of_length_le (by simp)
        rintro e w1 ⟨rfl, hb1⟩
        have hE1 : Ext X w1 := at_ext hb1
        clear hb1
        have HO1 := Lib.hid (hO.out.ext hE1)
        have HR1 := Lib.hid (hR.out.ext hE1)
        have HD1 := Lib.hid (hD.out.ext hE1)
        have c1 := hE1.cell d1
        have hs1 := hE1.size
        go_wp2_with (first
          | (at_builtin; refine app_int rfl _ _ 34 Tryz.underlying34 rfl rfl (HD1.out.ext ((Ext.refl _).alloc _)) rfl (b := w1.heap.size) (z := (d : Int)) (by go_simp) hnl.out (by simp; omega) ?_; intro gg cap2 w8 hO8 hB8 hG8; rw [← nz_snoc, ← HMv.out, nz_length, pcl_length] at hO8; rw [nz_length, pcl_length]; have hE8 : Ext w w8 := Ext.mk' (Below.trans ((hE.trans hE1).alloc (.cells #[.int .i64 (d : Int)] 3)) hB8); have HO8 := Lib.hid hO8; have hAl := ((Ext.refl w1).alloc (.cells #[.int .i64 (d : Int)] 3)); have hOb := own_box (HO1.out.ext hAl) (HD1.out.ext hAl) hG8; have hRb := own_box (HR1.out.ext hAl) (HD1.out.ext hAl) hG8; have f1 := hOb.frozen 1; have e1 := hOb.cell (j := 1) (by simp); obtain ⟨hOs, hGs⟩ := hOb.set 1 (slv gg (k + 1) cap2); have HOs := Lib.hid hOs; have HRs := Lib.hid (hRb.other hGs (by omega)); have HDs := Lib.hid (HO8.out.box hOb hGs); have hEs := Lib.hid (ext_trans_grown hE8 hGs (by omega)); clear hO8 hB8 hG8 hOb hRb hOs hGs))
        go_roundw
        case rel => exact ⟨k + 1, L.take f, _, by have := Hlk.out; omega, S_take _ _, hL2, by rw [List.length_take]; have := Hf.out; omega, HOs, HRs, HDs, hEs.out⟩
        case measure =>
          have := Hf.out
          simp [ByteArray.size]
          omega
      · have hL0 : L.length = 0 := by omega
        have hnp : ¬ (0 : Int) < (L.length : Int) := by omega
        have hv : vP (pcl z.natAbs k) = z.natAbs := by
          rw [vP_pcl, Nat.mod_eq_of_lt]
          refine Nat.lt_of_lt_of_le (Lib.lt_pow_nDigits z.natAbs) ?_
          rw [show (1000000000 : Nat) = 10 ^ 9 from rfl, ← Nat.pow_mul]
          refine Nat.pow_le_pow_right (by omega) ?_
          rw [← Lib.decDigits_length, ← Hl.out]; omega
        have ht := trim_v (b := false) hD.out.dg (by rw [pcl_length]; omega) (pcl_small _ _)
        rw [hv, hsg.out] at ht
        have Ht := Lib.hid ht
        clear ht hv hL0 hLl
        go_wp2_with fail
        refine Ht.out.mono ?_
        rintro e w5 ⟨v, rfl, hv, hE5⟩
        obtain ⟨bz, sv, n, cv, rfl, q0, q1, q2, q3, r0, r1, hfin, _⟩ := res_end (hE.trans hE5) (Nat.le_refl _) (hR.out.ext hE5) hv
        clear hv Ht
        go_wp2_with fail
        refine bodyPost_ret (v := .agg #[.bool bz, .slice sv n cv]) (by simp [results, Tryz.results102, go_sem, r0, r1]) rfl hfin.out
set_option maxRecDepth 100000 in
set_option maxHeartbeats 1000000 in
theorem of_w {n : Int} (h0 : -9223372036854775808 ≤ n) (h1 : n ≤ 9223372036854775807) {w : World} (hL : Laid w) : Calls Tryz.prog 64 #[.int .i64 n] w (WhPost w n) := by
  have hEw := (Ext.refl w).alloc (.cells #[.bool false, .slice none 0 0] 66)
  have HOr := Lib.hid (own_alloc w 66 (.bool false) (.slice none 0 0))
  have hi := Lib.hid (Int07_any h0 h1 (hL.ext hEw))
  have hnd : nd n ≤ 1000000000 := by
    have e : (2 : Nat) ^ 64 = 18446744073709551616 := by decide
    have := nd_lt2 (z := n) (E := 64) (by rw [e]; omega)
    omega
  have Hnd := Lib.hid hnd
  clear h0 h1 hL hnd
  go_enter Tryz.func64, Tryz.ntmps64
  go_wp2_with fail
  refine hi.out.mono ?_
  rintro e w1 ⟨rfl, hE1⟩
  have ht := Lib.hid (to_w (z := n) Hnd.out (w := w1))
  go_wp2_with fail
  refine ht.out.mono ?_
  rintro e w5 ⟨v, rfl, hv, hE5⟩
  have hVE := hE1.trans hE5
  obtain ⟨bz, sv, n', cv, rfl, q0, q1, q2, q3, r0, r1, hfin, _⟩ := res_end (hEw.trans hVE) (Nat.le_refl _) (HOr.out.ext hVE) hv
  clear hv ht hi HOr
  go_wp2_with fail
  refine bodyPost_ret (v := .agg #[.bool bz, .slice sv n' cv]) (by simp [results, Tryz.results64, go_sem, r0, r1]) rfl hfin.out
end Go.Proofs.YthmhmkkcjlgbjaaGreatDoor
/- A region that draws its order: loads of cells that nobody writes but its last operations, calls that make memory, and a forced tail (stores). The loads are taken first; after the kit's OrdersHeld and StillTail. -/
namespace Go.Proofs.YthmhmkkcjlgbjaaGreatDoor
open Go Go.Sort
section
variable {P : Program} {ops : Array Oper} {md : Region.Mode} {Q : Exit → Act → World → Prop} {S : World → Prop}
def wpAnyLH (P : Program) (md : Region.Mode) (ops : Array Oper) (Q : Exit → Act → World → Prop) (S : World → Prop) (n : Nat) (L : Array Bool → Act → World → Prop) : Nat → Array Bool → Act → World → Prop
  | 0, listed, a, w => L listed a w
  | f + 1, listed, a, w => Region.ready md ops listed ≠ [] ∧ ∀ i ∈ Region.ready md ops listed, i < n ∧ wpOp P ops Q i (fun a' w' => S w' ∧ wpAnyLH P md ops Q S n L f (listed.setIfInBounds i true) a' w') a w
theorem wpAny_of_headH {n g : Nat} {L : Array Bool → Act → World → Prop} (hL : ∀ listed a w, L listed a w → wpAny P md ops Q g listed a w) :
    ∀ (f : Nat) (listed : Array Bool) (a : Act) (w : World), wpAnyLH P md ops Q S n L f listed a w → wpAny P md ops Q (f + g) listed a w
  | 0, listed, a, w, h => by rw [Nat.zero_add]; exact hL _ _ _ h
  | f + 1, listed, a, w, h => by
    rw [show f + 1 + g = (f + g) + 1 by omega]
    exact ⟨fun h0 => absurd h0 h.1, fun i hi => wpOp_mono (fun a' w' h' => wpAny_of_headH hL f _ a' w' h'.2) (h.2 i hi).2⟩
theorem wpAnyLH_first {n i : Nat} {oi : Oper} {v : Value} {L : Array Bool → Act → World → Prop} (hi : ops[i]? = some oi) (hsel : ∀ (j : Nat) (o : Oper) cs b, ops[j]? = some o → o.op ≠ .select cs b)
    (hQ : ∀ c a w, Q (.panic c) (a.put oi.dst v) w → Q (.panic c) a w)
    (hs : Region.sinkB md ops n = true) (hc : Region.chainB md ops n = true) (hn : n < ops.size) (hin : i < n)
    (hdone : ∀ listed a w, L listed a w → ∀ j ∈ Region.ready md ops listed, n ≤ j) :
    ∀ (f : Nat) (listed : Array Bool) (a : Act) (w : World), HeadInv md ops n listed →
      (∀ j oj, ops[j]? = some oj → j ≠ i → listed.getD j true = false → (∀ e ∈ oj.after, Region.binds md e = true → e.on ≠ i) → oi.apart ops oj = true) →
      i ∈ Region.ready md ops listed → YieldsIf P ops S oi v a → S w →
      wpAnyLH P md ops Q S n L f (listed.setIfInBounds i true) (a.put oi.dst v) w → wpAnyLH P md ops Q S n L (f + 1) listed a w := by
  intro f
  induction f with
  | zero =>
    intro listed a w inv _ hr hy hS H
    have hun := (mem_ready.1 hr).1
    refine ⟨fun h => (by rw [h] at hr; cases hr), fun j hj => ?_⟩
    have hjn : j < n := by
      rcases Nat.lt_or_ge j n with h | h
      · exact h
      · exact absurd hj (tail_waits hs hc hn inv _ i rfl hin hun j h)
    refine ⟨hjn, ?_⟩
    by_cases hji : j = i
    · subst hji; exact hy.wpOp hi hS ⟨hS, H⟩
    · have := hdone _ _ _ H j (ready_mono hj hji)
      omega
  | succ f ih =>
    intro listed a w inv hfree hr hy hS H
    have hun := (mem_ready.1 hr).1
    refine ⟨fun h => (by rw [h] at hr; cases hr), fun j hj => ?_⟩
    have hjn : j < n := by
      rcases Nat.lt_or_ge j n with h | h
      · exact h
      · exact absurd hj (tail_waits hs hc hn inv _ i rfl hin hun j h)
    refine ⟨hjn, ?_⟩
    by_cases hji : j = i
    · subst hji; exact hy.wpOp hi hS ⟨hS, H⟩
    · have h1 := (H.2 j (ready_mono hj hji)).2
      obtain ⟨hjun, oj, hoj, hall⟩ := mem_ready.1 hj
      have hnot : ∀ e ∈ oj.after, Region.binds md e = true → e.on ≠ i := fun e he hb heq => by
        have h1 := hall e he hb
        rw [heq, getD_both hun] at h1
        cases h1
      have h2 := wpOp_putIf hoj (hfree j oj hoj hji hjun hnot) (fun cs b => hsel i oi cs b hi) (fun cs b => hsel j oj cs b hoj) hQ hy h1
      have hfree' : ∀ k ok, ops[k]? = some ok → k ≠ i → (listed.setIfInBounds j true).getD k true = false →
          (∀ e ∈ ok.after, Region.binds md e = true → e.on ≠ i) → oi.apart ops ok = true := fun k ok hk hki hun hno => by
        refine hfree k ok hk hki ?_ hno
        by_cases hjk : j = k
        · subst hjk; exact hjun
        · rw [getD_set_ne true hjk] at hun; exact hun
      refine wpOp_mono (fun a' w' h3 => ⟨h3.2.1, ih (listed.setIfInBounds j true) a' w' (inv.set hj hjn) hfree' (ready_mono hr (Ne.symm hji)) h3.1 h3.2.1 ?_⟩) h2
      rw [Array.setIfInBounds_comm _ _ hji]
      exact h3.2.2
/-- What the tail must meet. -/
def LTail (P : Program) (md : Region.Mode) (ops : Array Oper) (Q : Exit → Act → World → Prop) (n : Nat) (rest : List Oper) (listed : Array Bool) (a : Act) (w : World) : Prop := Region.seqB md ops (ops.size - n) n listed = true ∧ wpList P ops Q rest a w
/-- A load is taken first. -/
theorem wpAnyLH_take {n i f : Nat} {oi : Oper} {v : Value} {rest : List Oper} {listed : Array Bool} {a : Act} {w : World} (hi : ops[i]? = some oi)
    (hB : (Region.noSelect ops && decide (n < ops.size) && Region.sinkB md ops n && Region.chainB md ops n && decide (i < n) && Region.free md ops listed i && (Region.ready md ops listed).contains i) = true)
    (hQ : ∀ c a w, Q (.panic c) (a.put oi.dst v) w → Q (.panic c) a w) (hy : YieldsIf P ops S oi v a) (hS : S w) (inv : HeadInv md ops n listed)
    (h : HeadInv md ops n (listed.setIfInBounds i true) → wpAnyLH P md ops Q S n (LTail P md ops Q n rest) f (listed.setIfInBounds i true) (a.put oi.dst v) w) : wpAnyLH P md ops Q S n (LTail P md ops Q n rest) (f + 1) listed a w := by
  simp only [Bool.and_eq_true, decide_eq_true_eq] at hB
  obtain ⟨⟨⟨⟨⟨⟨hsel, hn⟩, hs⟩, hc⟩, hin⟩, hf⟩, hr⟩ := hB
  have hr' : i ∈ Region.ready md ops listed := by simpa using hr
  exact wpAnyLH_first hi (Region.noSelect_spec hsel) hQ hs hc hn hin (fun _ _ _ hL => seqB_ready hL.1) f listed a w inv (Region.free_spec hi hf) hr' hy hS (h (inv.set hr' hin))
/-- The one operation that may come up. -/
theorem wpAnyLH_one {n i f : Nat} {o : Oper} {L : Array Bool → Act → World → Prop} {listed : Array Bool} {a : Act} {w : World} (ho : ops[i]? = some o) (hr : (Region.ready md ops listed == [i] && decide (i < n)) = true)
    (h : ∀ K' : Act → World → Prop, (∀ a w, S w → wpAnyLH P md ops Q S n L f (listed.setIfInBounds i true) a w → K' a w) → if Region.wanted o (yielded ops a.tmps) = true then Oper.wp P o a w K' Q else K' (a.put o.dst undef) w) : wpAnyLH P md ops Q S n L (f + 1) listed a w := by
  simp only [Bool.and_eq_true, decide_eq_true_eq, beq_iff_eq] at hr
  refine ⟨fun h0 => (by rw [hr.1] at h0; cases h0), fun j hj => ?_⟩
  rw [hr.1] at hj
  obtain rfl : j = i := by simpa using hj
  exact ⟨hr.2, wpOp_step ho (fun K' hK => h K' (fun a w hS hW => hK a w ⟨hS, hW⟩))⟩
theorem wpAnyLH_end {n : Nat} {rest : List Oper} {listed : Array Bool} {a : Act} {w : World} (hB : Region.seqB md ops (ops.size - n) n listed = true) (h : wpList P ops Q rest a w) : wpAnyLH P md ops Q S n (LTail P md ops Q n rest) 0 listed a w := ⟨hB, h⟩
theorem wp_region_held_tail {id : Nat} {a : Act} {w : World} {l : List Oper} (n : Nat) (hm : P.follows .mixedOrders = true) (hn : n < l.length)
    (h : HeadInv .any l.toArray n (Array.replicate l.toArray.size false) → wpAnyLH P .any l.toArray Q S n (LTail P .any l.toArray Q n (l.drop n)) n (Array.replicate l.toArray.size false) a w.drew) : (Code.region id l.toArray true).wp P Q a w := by
  have hdl : (l.drop n).length = l.toArray.size - n := by simp
  have inv0 : HeadInv .any l.toArray n (Array.replicate l.toArray.size false) :=
    ⟨by simp, fun j oj _ hl => (by rw [getD_replicate_false] at hl; cases hl), fun t _ ht => getD_in (by simpa using ht) (getD_replicate_false _ _)⟩
  refine wp_region_any hm ?_
  have := wpAny_of_headH (Q := Q) (g := l.toArray.size - n) (fun listed a' w' hL => by
    have := wpAny_of_seq (md := .any) (Q' := Q) (l.drop n) n listed a' w' (fun j => by simp [List.getElem?_drop]) (by rw [hdl]; exact hL.1) hL.2
    rwa [hdl] at this) _ _ _ _ (h inv0)
  rw [show n + (l.toArray.size - n) = l.toArray.size by simp; omega] at this
  exact this
end
end Go.Proofs.YthmhmkkcjlgbjaaGreatDoor
