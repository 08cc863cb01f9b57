/- Part 29 of the proof of the claim: contracts of the functions that it reaches, and plain laws; no condition. -/
import Derived.Test.YthmhmkkcjlgbjaaGreatDoorV28
import Derived.Test.YthmhmkkcjlgbjaaGreatDoorV22
import Derived.Test.YthmhmkkcjlgbjaaGreatDoorV23
import Derived.Test.YthmhmkkcjlgbjaaGreatDoorV27
import Derived.Test.YthmhmkkcjlgbjaaGreatDoorV19
/- schismaref07: Size -/
namespace Go.Proofs.YthmhmkkcjlgbjaaGreatDoor
open Go.RowKit Go.Sort
/-- A box that holds an integer. -/
def BoxW (B : Nat) (w : World) (g : Nat) (z : Int) : Prop := ∃ b s n c, OwnV 66 B w g 2 [.bool b, .slice s n c] ∧ WhR w (.agg #[.bool b, .slice s n c]) z
theorem BoxW.ext {B g : Nat} {w w' : World} {z : Int} (h : BoxW B w g z) (he : Ext w w') : BoxW B w' g z := by
  obtain ⟨b, s, n, c, h1, h2⟩ := h; exact ⟨b, s, n, c, h1.ext he, h2.ext he⟩
theorem BoxW.set {B g : Nat} {w : World} {a b : Value} {z : Int} {x : Bool} {s : Option Addr} {n c : Nat} (h : OwnV 66 B w g 2 [a, b]) (hv : WhR w (.agg #[.bool x, .slice s n c]) z) :
    BoxW B ((w.setCell ⟨g, 0, none⟩ (.bool x)).setCell ⟨g, 1, none⟩ (.slice s n c)) g z ∧ w.grownBy ((w.setCell ⟨g, 0, none⟩ (.bool x)).setCell ⟨g, 1, none⟩ (.slice s n c)) (some g) := by
  obtain ⟨h1, h2⟩ := res_set h (.bool x) (.slice s n c)
  obtain ⟨d, e, hd⟩ := hv
  exact ⟨⟨x, s, n, c, h1, ⟨d, e, dig_kept h h2 hd⟩⟩, h2⟩
theorem pivP_bd {F : Mx} {E : Nat} (hF : AllB E F) : ∀ i, i ≤ F.length → (pivP F F i).natAbs ≤ 2 ^ (E * i)
  | 0, _ => by simp [pivP]
  | i + 1, h => by
    have ih := pivP_bd hF i (by omega)
    have h1 := getD_bd (Nat.two_pow_pos E) (hF (F.getD i []) (by rw [getD_get (by omega)]; exact List.getElem_mem _)) (pv (F.getD i []))
    rw [pivP, Int.natAbs_mul, Nat.mul_succ, Nat.pow_add]
    exact Nat.mul_le_mul ih (Nat.le_of_lt h1)
set_option maxRecDepth 100000 in
set_option maxHeartbeats 4000000 in
theorem size_w {w : World} {vf : Value} {F : Mx} {n E : Nat} (hF : MtR w vf F) (hRc : Rect n F) (hnl : n ≤ 1000000) (hP : ∀ i, i < F.length → pv (F.getD i []) < n ∧ 0 < (F.getD i []).getD (pv (F.getD i [])) 0)
    (hb : AllB E F) (hE : E * (F.length + 1) + 1 ≤ 2900000000) (hfl : F.length ≤ 1000) (hL : Laid w) :
    Calls Tryz.prog 35 #[vf] w (WhPost w (pivP F F F.length)) := by
  obtain ⟨sa, gb, go, cap, rfl, hS⟩ := hF.at
  have HP := Lib.hid hP
  have Hb := Lib.hid hb
  have HE := Lib.hid hE
  have HRc := Lib.hid hRc
  have Hpb := Lib.hid (pivP_bd hb)
  obtain ⟨m, hm⟩ : ∃ m, m = F.length := ⟨_, rfl⟩
  rw [← hm] at hfl ⊢
  have Hm := Lib.hid hm
  have hE1 := (Ext.refl w).alloc (.cells #[.bool false, .slice none 0 0] 66)
  have hO2 := own_alloc w 66 (.bool false) (.slice none 0 0)
  have hof := Lib.hid (of_w (n := 1) (by omega) (by omega) (hL.ext hE1))
  clear hP hb hRc hL hm hF hE
  go_enter Tryz.func35, Tryz.ntmps35
  go_wp2_with fail
  refine hof.out.mono ?_
  rintro e V ⟨v, rfl, hv, hEV⟩
  obtain ⟨b0, s0, n0, c0, rfl⟩ := hv.shape
  have HO2 := Lib.hid ((hO2.ext hEV).ext ((Ext.refl V).alloc (.cells #[.bool b0, .slice s0 n0 c0] 66)))
  have HBx := Lib.hid (show BoxW w.heap.size (V.alloc (.cells #[.bool b0, .slice s0 n0 c0] 66)) V.heap.size 1 from ⟨b0, s0, n0, c0, (own_alloc V 66 (.bool b0) (.slice s0 n0 c0)).mono (hE1.trans hEV).size, hv.ext ((Ext.refl V).alloc _)⟩)
  have hEA := (hE1.trans hEV).alloc (.cells #[.bool b0, .slice s0 n0 c0] 66)
  have hgV : w.heap.size < V.heap.size := by have := hEV.size; simp at this; omega
  clear hof hv hO2
  go_wp2_with fail
  generalize hVA : V.alloc (.cells #[.bool b0, .slice s0 n0 c0] 66) = VA at *
  have HVA := Lib.hid hVA
  have hVs : VA.heap.size = V.heap.size + 1 := by rw [← hVA]; simp
  obtain ⟨g3, hg3⟩ : ∃ g3, g3 = V.heap.size := ⟨_, rfl⟩
  rw [← hg3] at HBx hgV ⊢
  clear hVA hg3 hVs
  go_loopw [4] (fun idx wr => ∃ (i : Nat), i ≤ m ∧ idx = .int .i64 i ∧ Hid (BoxW w.heap.size wr g3 (pivP F F i)) ∧ Hid (OwnV 66 w.heap.size wr w.heap.size 2 [.bool false, .slice none 0 0]) ∧ Ext w wr) (fun idx _ => m - (intOf idx).toNat)
  case atStart => exact ⟨0, by omega, by go_num, HBx, HO2, hEA⟩
  case round =>
    obtain ⟨i, hi, rfl, hB, hO, hE⟩ := hrel
    generalize wr = X at *
    by_cases hlt : i < m
    · have hii : (i : Int) < (m : Int) := by omega
      have hir : i < F.length := by rw [← Hm.out]; exact hlt
      obtain ⟨rfl, sr, cr, k0, hw⟩ := hS.out i hir
      obtain ⟨r, hr⟩ : ∃ r, r = F[i] := ⟨_, rfl⟩
      have hmem : r ∈ F := by rw [hr]; exact List.getElem_mem hir
      have hrl := HRc.out _ hmem
      rw [← hr, hrl] at k0 hw
      have hrD : F.getD i [] = r := by rw [getD_get hir, hr]
      have hpv := HP.out i hir
      rw [hrD] at hpv
      have Hpv := Lib.hid hpv
      have Hrl := Lib.hid hrl
      have HrD := Lib.hid hrD
      have HrB := Lib.hid (Hb.out r hmem)
      have Hw := Lib.hid (hw.ext hE)
      have k0 := hE.cell k0
      clear hw hmem hr hrl hrD hpv
      go_wp2_with fail
      go_loopw [5] (fun ci wr => ∃ c : Nat, c ≤ pv r ∧ ci = .int .i64 c ∧ Ext X wr) (fun ci _ => n - (intOf ci).toNat)
      case atStart => exact ⟨0, by omega, by go_num, Ext.refl _⟩
      case round =>
        obtain ⟨c, hc, rfl, hEY⟩ := hrel
        generalize wr = Y at *
        have hcn : c < n := by have := Hpv.out.1; omega
        have hcc : (c : Int) < (n : Int) := by omega
        obtain ⟨-, gr, or, rfl, t1, m1, r1, e0, e1, hdr⟩ := (Hw.out.ext hEY).col (by rw [Hrl.out]; exact hcn)
        obtain ⟨b, hb⟩ : ∃ b, b = r.getD c 0 := ⟨_, rfl⟩
        rw [← hb] at e0 hdr
        have Hb1 := Lib.hid hb
        have hsg := Lib.hid (signW_w hdr)
        have k0Y := hEY.cell k0
        by_cases hb0 : b = 0
        · have hs : b.sign = 0 := by rw [hb0]; rfl
          rw [hs] at hsg
          have hc2 : c + 1 ≤ pv r := by
            rcases Nat.lt_or_ge c (pv r) with h | h
            · omega
            · have e : c = pv r := by omega
              have := Hpv.out.2
              rw [← e, ← Hb1.out] at this; omega
          generalize decide (b < 0) = bb at *
          clear hdr hb hb0 hs
          go_wp2_with fail
          refine hsg.out.mono ?_
          rintro e W1 ⟨rfl, hE1⟩
          have hE2 := hEY.trans hE1
          clear hsg
          go_wp2_with fail
          go_roundw
          case rel => exact ⟨c + 1, hc2, by go_num, hE2⟩
          case measure => simp [intOf] <;> omega
        · have hpvc : pv r = c := pv_first hc (by rw [← Hb1.out]; exact hb0)
          have hpos : 0 < b := by have := Hpv.out.2; rw [hpvc, ← Hb1.out] at this; exact this
          have hs : b.sign = 1 := Int.sign_eq_one_of_pos hpos
          rw [hs] at hsg
          have hEi : E * (i + 1) + 1 ≤ 2900000000 := Nat.le_trans (Nat.add_le_add_right (Nat.mul_le_mul_left _ (by omega)) 1) HE.out
          have hlp : (pc (pivP F F i).natAbs).length ≤ 100000000 := pc_bits (E := E * i + 1) (Nat.lt_of_le_of_lt (Hpb.out i (by omega)) (Nat.pow_lt_pow_right (by omega) (by omega))) (by
            have : E * i ≤ E * (i + 1) := Nat.mul_le_mul_left _ (by omega)
            omega)
          have hlb : (pc b.natAbs).length ≤ 100000000 := by
            rw [Hb1.out, getD_get (by rw [Hrl.out]; exact hcn : c < r.length)]
            exact pc_bits (HrB.out _ (List.getElem_mem _)) (by
              have : E * 1 ≤ E * (i + 1) := Nat.mul_le_mul_left _ (by omega)
              omega)
          have Hnx := Lib.hid (show pivP F F (i + 1) = pivP F F i * b by
            rw [pivP, HrD.out, hpvc, Hb1.out]
            unfold eM; rw [HrD.out])
          obtain ⟨P, hPe⟩ : ∃ P, P = pivP F F i := ⟨_, rfl⟩
          rw [← hPe] at hlp Hnx hB
          obtain ⟨b4, s4, n4, c4, hOb, hWb⟩ := hB.out.ext hEY
          have HOb := Lib.hid hOb
          have hmu := Lib.hid (fun V (hV : Ext Y V) => mulW_w (hWb.ext hV) (hdr.ext hV) (by omega) (by omega))
          have hEY2 := hE.trans hEY
          have hOr := Lib.hid (hO.out.ext hEY)
          generalize decide (b < 0) = bb at *
          clear hdr hWb hOb hb0 hs hlp hlb hpvc hpos hPe hB hO
          go_wp2_with fail
          refine hsg.out.mono ?_
          rintro e W ⟨rfl, hE1⟩
          replace k0Y := hE1.cell k0Y
          replace e0 := hE1.cell e0
          replace e1 := hE1.cell e1
          have HO1 := Lib.hid (HOb.out.ext hE1)
          have x0 := HO1.out.cell (j := 0) (by simp)
          have x1 := HO1.out.cell (j := 1) (by simp)
          have hEW := hEY2.trans hE1
          have hOr1 := Lib.hid (hOr.out.ext hE1)
          simp only [List.getElem_cons_zero, List.getElem_cons_succ] at x0 x1
          clear hsg HOb hOr
          go_wp2_with fail
          go_region_law (first
            | (go_simp; go_at_call 70; refine (hmu.out _ (hE1.trans ((Ext.refl _).drew))).mono ?_; rintro e W8 ⟨v8, rfl, hv8, hE10⟩; have d9 : Ext W W8 := ((Ext.refl W).drew).trans hE10; obtain ⟨b8, s8, n8, c8, rfl⟩ := hv8.shape; have HO8 := Lib.hid (OwnV.ext HO1.out d9); have y0 := OwnV.cell HO8.out (j := 0) (by simp); have y1 := OwnV.cell HO8.out (j := 1) (by simp); have z0 := OwnV.frozen HO8.out 0; have z1 := OwnV.frozen HO8.out 1; have Hv8 := Lib.hid hv8; clear hv8))
          all_goals
            obtain ⟨hB8, hG8⟩ := BoxW.set HO8.out Hv8.out
            rw [← Hnx.out] at hB8
            have HB8 := Lib.hid hB8
            have hOr8 := Lib.hid ((OwnV.ext hOr1.out d9).other hG8 (by omega))
            have hE11 := ext_trans_grown (hEW.trans d9) hG8 (by omega)
            clear hB8 hG8 hmu HO1 hOr1 Hv8
            generalize hWN : ((W8.setCell ⟨g3, 0, none⟩ (.bool b8)).setCell ⟨g3, 1, none⟩ (.slice s8 n8 c8)) = WN at *
            clear hWN x0 x1 y0 y1 z0 z1
            go_wp2_with fail
            go_roundw
            case rel => exact ⟨i + 1, by omega, by go_num, HB8, hOr8, hE11⟩
            case measure => simp [intOf] <;> omega
    · have hie : i = m := by omega
      subst hie
      obtain ⟨b4, s4, n4, c4, hOb, hWb⟩ := hB.out
      have x0 := hOb.cell (j := 0) (by simp)
      have x1 := hOb.cell (j := 1) (by simp)
      simp only [List.getElem_cons_zero, List.getElem_cons_succ] at x0 x1
      obtain ⟨bz, sv, n9, cv, hsh, q0, q1, q2, q3, p0, p1, hfin, _⟩ := res_end hE (Nat.le_refl _) hO.out hWb
      injection hsh with hsh
      injection hsh with hsh
      injection hsh with h1 h2
      injection h1 with h1
      injection h2 with h2 _
      injection h2 with h2 h3 h4
      subst h1 h2 h3 h4
      clear hOb hWb hB hO
      go_wp2_with fail
      refine bodyPost_ret (v := .agg #[.bool b4, .slice s4 n4 c4]) (by simp [results, Tryz.results35, go_sem, p0, p1]) rfl hfin.out
end Go.Proofs.YthmhmkkcjlgbjaaGreatDoor
/- schismalaw07: form -/
namespace Go.Proofs.YthmhmkkcjlgbjaaGreatDoor
open Go.RowKit Go.Sort
def FoPost (n : Nat) (M : Mx) (w : World) (e : Ending) (w' : World) : Prop := ∃ F, HnfOf n M F ∧ F.length ≤ M.length ∧ FmPost w.heap.size F w e w'
theorem FmPost.ext {B B' : Nat} {F : Mx} {w w1 : World} {e : Ending} {w' : World} (h : FmPost B F w1 e w') (hE : Ext w w1) (hB : B' ≤ B) : FmPost B' F w e w' := by
  rcases h with ⟨hs, u, he, hu, h⟩ | ⟨hs, he, h⟩
  · obtain ⟨vs, h1, h2, h3⟩ := hu
    exact .inl ⟨hs, u, he, ⟨vs, h1, ownsRow_mono h2 hB, fun t a b => (h3 t a b).mono hB⟩, hE.trans h⟩
  · exact .inr ⟨hs, he, hE.trans h⟩
set_option maxRecDepth 100000 in
set_option maxHeartbeats 1000000 in
theorem form07_any {w : World} {v : Value} {M : Mx} {n : Nat} (hM : MatR w v M) (hRc : Rect n M) (hml : M.length ≤ 1000000) (hnl : n ≤ 1000000) (hb : ∀ r ∈ M, ∀ z ∈ r, -1000000000 ≤ z ∧ z ≤ 1000000000) (hk : rkB M.length 30 n ≤ 2900000000) (hL : Laid w) :
    Calls Tryz.prog 28 #[v] w (FoPost n M w) := by
  have HL := Lib.hid hL
  have HRc := Lib.hid hRc
  have Hb30 := Lib.hid (show AllB 30 M from fun r hr z hz => by
    have e : (2 : Nat) ^ 30 = 1073741824 := by decide
    have := hb r hr z hz
    rw [e]; omega)
  have hto := Lib.hid (to_m hM (fun r hr z hz => by have := hb r hr z hz; unfold I64; omega) hml (fun r hr => by rw [hRc r hr]; exact hnl) hL)
  clear hM hRc hb hL
  go_enter Tryz.func28, Tryz.ntmps28
  go_wp2_with fail
  refine hto.out.mono ?_
  rintro e w1 ⟨v1, rfl, hv1, hE1⟩
  have hfo := Lib.hid (form_w hv1.mat HRc.out hml hnl Hb30.out hk (HL.out.ext hE1))
  clear hto hv1
  go_wp2_with fail
  refine hfo.out.mono ?_
  rintro e w2 ⟨v2, F, rfl, hH, hB, hFl, hv2, hE2⟩
  have hE12 := hE1.trans hE2
  have hsz := hE12.size
  have HH := Lib.hid hH
  have hfr := Lib.hid (from_m hv2.mat (fun r hr => bits_pc hk (hB r hr)) (by omega) (fun r hr => by
    obtain ⟨⟨ps, hI⟩, _⟩ := hH
    rw [hI.rect r hr]; exact hnl) (HL.out.ext hE12))
  clear hfo hv2 hB hH
  go_wp2_with fail
  refine hfr.out.mono ?_
  rintro e w3 hP
  have hP' := hP.ext hE12 hsz
  rcases hP with ⟨hs, u, rfl, hu, h⟩ | ⟨hs, rfl, h⟩
  · have hfin := Lib.hid (show FoPost n M w (.returned (.tuple #[u, .bool true])) w3 from ⟨F, HH.out, hFl, hP'⟩)
    clear hfr hP' hu
    go_wp2_with fail
    go_ret2
    exact hfin.out
  · have hfin := Lib.hid (show FoPost n M w (.returned (.tuple #[.slice none 0 0, .bool false])) w3 from ⟨F, HH.out, hFl, hP'⟩)
    clear hfr hP'
    go_wp2_with fail
    go_ret2
    exact hfin.out
end Go.Proofs.YthmhmkkcjlgbjaaGreatDoor
/- Plain: the index by the reference's product of pivots -/
namespace Go.Proofs.YthmhmkkcjlgbjaaGreatDoor
open Hnf (V Span Ech Red)
theorem isH_pvi {n : Nat} {ps : List Nat} {F : Mx} (h : IsH n ps F) {i : Nat} (hi : i < F.length) : pv (F.getD i []) = ps.getD i 0 := by
  rw [isH_pv h, getD_map pv F i hi 0 []]
theorem isH_pvp {n : Nat} {ps : List Nat} {F : Mx} (h : IsH n ps F) : ∀ i, i < F.length → pv (F.getD i []) < n ∧ 0 < (F.getD i []).getD (pv (F.getD i [])) 0 := fun i hi => by
  rw [isH_pvi h hi]
  exact ⟨h.lt i hi, h.pos i hi⟩
theorem idx_floor {n : Nat} {F G : Mx} {ps qs : List Nat} (hF : IsH n ps F) (hG : IsH n qs G) (hs : ∀ v ∈ latM G, Span (latM F) v) (hl : F.length ≤ G.length) : G.length = F.length ∧ 0 < pivP F F F.length ∧ (pivP G G G.length).fdiv (pivP F F F.length) = idxN F G F.length := by
  obtain ⟨h1, h2⟩ := same_piv hF hG hs hl
  have h0 : ∀ i, i < F.length → 0 < eM F i (pv (F.getD i [])) := fun i hi => (isH_pvp hF i hi).2
  have e : ∀ i, i ≤ F.length → pivP G G i = pivP F G i := by
    intro i
    induction i with
    | zero => intro _; rfl
    | succ i ih =>
      intro hi
      rw [pivP, pivP, ih (by omega), isH_pvi hF (by omega), isH_pvi hG (by omega), (h2 i (by omega)).1]
  have hp := pivP_pos h0 F.length (Nat.le_refl _)
  have hm := idxN_mul (G := G) h0 (fun i hi => by rw [isH_pvi hF hi]; exact (h2 i hi).2) F.length (Nat.le_refl _)
  refine ⟨h1, hp, ?_⟩
  rw [h1, e F.length (Nat.le_refl _), ← hm, Int.mul_fdiv_cancel _ (by omega)]
theorem span_nil {v : V} (h : Span [] v) (j : Nat) : v j = 0 := span_col h fun r hr => by cases hr
theorem hnf_nil0 {n : Nat} {F : Mx} (h : HnfOf n [] F) : F.length = 0 := by
  obtain ⟨⟨ps, hI⟩, h1, _⟩ := h
  rcases Nat.eq_zero_or_pos F.length with h0 | h0
  · exact h0
  · have h2 := hI.pos 0 h0
    have h3 := span_nil (h1 (vr (F.getD 0 [])) (by rw [getD_get h0]; exact List.mem_map.2 ⟨F[0], List.getElem_mem h0, rfl⟩)) (ps.getD 0 0)
    unfold eM at h2
    unfold vr at h3
    omega
theorem ix_pair {M S F : Mx} {n : Nat} (hM : GridM M) (hS : GridM S) (hRM : Rect n M) (hRS : Rect n S) (hF : HnfOf (ncols M) M F) : pairE F S = 0 := by
  obtain ⟨_, hcF, hiF, hF4, hRF⟩ := grid_form hM hF
  obtain ⟨_, _, _, hcS⟩ := gridM_rect hS
  unfold pairE
  rw [if_pos hcF, if_pos hcS, if_pos hiF, if_neg]
  rintro ⟨a, b, c⟩
  refine c ?_
  rw [ncols_of hRF a, ncols_of hRS b]
  rcases Nat.eq_zero_or_pos M.length with h0 | h0
  · have e := List.eq_nil_of_length_eq_zero h0
    subst e
    have := hnf_nil0 hF
    omega
  · exact ncols_of hRM h0
/-- What the law's loop finds. -/
def inT (F S : Mx) (k : Nat) : Bool := (S.take k).all fun x => allZ (redX F x)
theorem inT_step {F S : Mx} {k : Nat} (h : k < S.length) : inT F S (k + 1) = (inT F S k && allZ (redX F S[k])) := by
  unfold inT
  rw [List.take_succ_eq_append_getElem h, List.all_append]
  simp
theorem allZ_zeroB (l : List Int) : allZ l = zeroB l := by
  rw [Bool.eq_iff_iff, zeroB_iff]
  unfold allZ zeroL
  rw [List.all_eq_true]
  exact ⟨fun h z hz => by simpa using h z hz, fun h z hz => by simpa using h z hz⟩
theorem inT_all {F S : Mx} {k : Nat} (h : S.length ≤ k) : inT F S k = inclB F S := by
  unfold inT
  rw [List.take_of_length_le h, Bool.eq_iff_iff, List.all_eq_true, inclB_iff]
  exact ⟨fun h x hx => by have := h x hx; rw [allZ_zeroB] at this; exact this, fun h x hx => by rw [allZ_zeroB]; exact h x hx⟩
theorem ix_span {F S : Mx} {n : Nat} {ps : List Nat} (hF : IsH n ps F) (hS : Rect n S) (h : inclB F S = true) : ∀ v ∈ latM S, Span (latM F) v := by
  intro v hv
  obtain ⟨x, hx, rfl⟩ := List.mem_map.1 hv
  exact (redX_zero hF (hS x hx)).1 (zeroB_iff.1 (inclB_iff.1 h x hx))
end Go.Proofs.YthmhmkkcjlgbjaaGreatDoor
/- schismalaw07: Make, with the number of columns -/
namespace Go.Proofs.YthmhmkkcjlgbjaaGreatDoor
open Go.RowKit Go.Sort
set_option maxRecDepth 100000 in
set_option maxHeartbeats 1000000 in
theorem Make_any2 {w : World} {cs : Array Value} {R C : Nat} (hG : GridV cs R C) :
    Calls Tryz.prog 11 #[.agg cs] w fun e w' => ∃ v M, e = .returned v ∧ MatO w.heap.size w' v M ∧ (GridM M ∧ Rect (1 + C % 4) M) ∧ Ext w w' := by
  have h0 := grid_cell (w := w) (T := 25) hG.c0
  have hR := hG.r8
  have HG := Lib.hid hG
  have hEw := (Ext.refl w).alloc (.cells cs 25)
  have hsz : w.heap.size < (w.alloc (.cells cs 25)).heap.size := by simp
  obtain ⟨m, hm⟩ : ∃ m, m = R % 5 := ⟨_, rfl⟩
  have hmI : (R : Int) % 5 = (m : Int) := by omega
  have hm4 : m < 5 := by omega
  obtain ⟨z0, z1, z2, z3, z4, z5, z6, z7, z8, z9, z10, z11, z12, z13, z14, z15, hcs⟩ := hG.cells
  have hcell := Lib.hid (fun (j : Nat) (x : Value) (h : cs[j]? = some x) => grid_cell (w := w) (T := 25) h)
  have Hcs := Lib.hid hcs
  clear hm hG hcs
  go_enter Tryz.func11, Tryz.ntmps11
  go_wp2_with fail
  generalize (w.alloc (.cells cs 25)) = V at *
  go_loopw [3, 4] (fun out idx wr => ∃ (k : Nat) (M : Mx), k ≤ m ∧ idx = .int .i64 k ∧ Hid (MatO V.heap.size wr out M) ∧ Hid (M.length = k) ∧ Hid (Rect (1 + C % 4) M) ∧ Hid (∀ r ∈ M, ∀ z ∈ r, -20 ≤ z ∧ z ≤ 20) ∧ Ext V wr) (fun _ idx _ => m - (intOf idx).toNat)
  case atStart => exact ⟨0, [], by omega, by go_num, Lib.hid (MatO.nil _ _), Lib.hid rfl, Lib.hid (fun z hz => by cases hz), Lib.hid (fun z hz => by cases hz), Ext.refl _⟩
  case round =>
    obtain ⟨k, M, hk, rfl, hO, hl, hR1, hb, hE⟩ := hrel
    generalize wr = X at *
    have h0X := hE.cell h0
    by_cases hlt : k < m
    · have hki : (k : Int) < (m : Int) := by omega
      have hln := Lib.hid (Line_any (w := X) (i := k) HG.out (by omega))
      rw [Hcs.out] at hln
      have c0 := h0X
      have c1 := hE.cell (hcell.out 1 (.int .u8 C) (by rw [Hcs.out]; rfl))
      have c2 := hE.cell (hcell.out 2 (.int .i8 z0) (by rw [Hcs.out]; rfl))
      have c3 := hE.cell (hcell.out 3 (.int .i8 z1) (by rw [Hcs.out]; rfl))
      have c4 := hE.cell (hcell.out 4 (.int .i8 z2) (by rw [Hcs.out]; rfl))
      have c5 := hE.cell (hcell.out 5 (.int .i8 z3) (by rw [Hcs.out]; rfl))
      have c6 := hE.cell (hcell.out 6 (.int .i8 z4) (by rw [Hcs.out]; rfl))
      have c7 := hE.cell (hcell.out 7 (.int .i8 z5) (by rw [Hcs.out]; rfl))
      have c8 := hE.cell (hcell.out 8 (.int .i8 z6) (by rw [Hcs.out]; rfl))
      have c9 := hE.cell (hcell.out 9 (.int .i8 z7) (by rw [Hcs.out]; rfl))
      have c10 := hE.cell (hcell.out 10 (.int .i8 z8) (by rw [Hcs.out]; rfl))
      have c11 := hE.cell (hcell.out 11 (.int .i8 z9) (by rw [Hcs.out]; rfl))
      have c12 := hE.cell (hcell.out 12 (.int .i8 z10) (by rw [Hcs.out]; rfl))
      have c13 := hE.cell (hcell.out 13 (.int .i8 z11) (by rw [Hcs.out]; rfl))
      have c14 := hE.cell (hcell.out 14 (.int .i8 z12) (by rw [Hcs.out]; rfl))
      have c15 := hE.cell (hcell.out 15 (.int .i8 z13) (by rw [Hcs.out]; rfl))
      have c16 := hE.cell (hcell.out 16 (.int .i8 z14) (by rw [Hcs.out]; rfl))
      have c17 := hE.cell (hcell.out 17 (.int .i8 z15) (by rw [Hcs.out]; rfl))
      go_wp2_with fail
      refine hln.out.mono ?_
      rintro e W ⟨v, r, rfl, hv, hrl, hrb, hW⟩
      have HR2 := Lib.hid ((hv.mono (show V.heap.size ≤ X.heap.size from hE.size)))
      have HO2 := Lib.hid (hO.out.ext hW)
      have hEW := Lib.hid (hE.trans hW)
      have hszW := hEW.out.size
      have Hrl := Lib.hid hrl
      have Hrb := Lib.hid hrb
      have hMk := hl.out
      have HM9 := Lib.hid (show M.length ≤ 1000000000 by rw [hl.out]; omega)
      obtain ⟨sv, bv, cv, rfl⟩ : ∃ a l c, v = .slice a l c := by
        rcases hv.2 with ⟨rfl, _⟩ | ⟨g, cap, cur, rfl, _⟩ <;> exact ⟨_, _, _, rfl⟩
      clear hv hrl hrb hW hln c0 c1 c2 c3 c4 c5 c6 c7 c8 c9 c10 c11 c12 c13 c14 c15 c16 c17
      go_wp2_with (at_builtin; refine app_mat rfl _ _ rfl rfl (HO2.out.ext ((Ext.refl _).alloc _)) rfl (b := W.heap.size) (by go_simp) (HR2.out.ext ((Ext.refl _).alloc _)) HM9.out (by simp; omega) ?_; intro gg cap2 w8 hO8 hB8 hG8; rw [hMk] at hO8 ⊢)
      have hE8 : Ext V w8 := Below.trans (hEW.out.alloc (.cells #[.slice sv bv cv] 35)) hB8
      have hO9 := Lib.hid hO8
      clear hG8 hB8 hO8
      go_wp2_with fail
      go_roundw
      case rel => exact ⟨k + 1, M ++ [r], by omega, by go_num, hO9, Lib.hid (by rw [List.length_append, hl.out]; rfl), Lib.hid (fun y hy => by
        rcases List.mem_append.1 hy with h | h
        · exact hR1.out y h
        · rw [List.mem_singleton.1 h]; exact Hrl.out), Lib.hid (fun y hy => by
        rcases List.mem_append.1 hy with h | h
        · exact hb.out y h
        · rw [List.mem_singleton.1 h]; exact Hrb.out), hE8⟩
      case measure => simp [intOf] <;> omega
    · have hke : k = m := by omega
      go_wp2_with fail
      go_ret
      exact ⟨_, M, rfl, hO.out.mono (by omega), ⟨⟨by rw [hl.out]; omega, 1 + C % 4, by omega, by omega, hR1.out, hb.out⟩, hR1.out⟩, hEw.trans hE⟩
end Go.Proofs.YthmhmkkcjlgbjaaGreatDoor
/- schismaref07: EqualRows, Equal -/
namespace Go.Proofs.YthmhmkkcjlgbjaaGreatDoor
open Go.RowKit Go.Sort
theorem list_getD_ext {a b : List Int} (hl : a.length = b.length) (h : ∀ j, j < a.length → a.getD j 0 = b.getD j 0) : a = b := by
  apply List.ext_getElem hl
  intro i h1 h2
  have := h i h1
  rwa [getD_get h1, getD_get h2] at this
theorem mx_getD_ext {a b : Mx} (hl : a.length = b.length) (h : ∀ j, j < a.length → a.getD j [] = b.getD j []) : a = b := by
  apply List.ext_getElem hl
  intro i h1 h2
  have := h i h1
  rwa [getD_get h1, getD_get h2] at this
set_option maxRecDepth 100000 in
set_option maxHeartbeats 1000000 in
theorem EqualRows_any {w : World} {va vb : Value} {a b : List Int} (hA : RowR w va a) (hB : RowR w vb b) (hbig : a.length ≤ 1000000) :
    Calls Tryz.prog 26 #[va, vb] w fun e w' => e = .returned (.bool (decide (a = b))) ∧ Ext w w' := by
  obtain ⟨sa, ga, oa, ca, rfl, hca, hSa⟩ := hA
  obtain ⟨sb, gb, ob, cb, rfl, hcb, hSb⟩ := hB
  by_cases hl : a.length = b.length
  · obtain ⟨n, hn⟩ : ∃ n, n = a.length := ⟨_, rfl⟩
    rw [← hl]
    rw [← hn] at hbig ⊢
    have HA := Lib.hid hSa
    have HB := Lib.hid hSb
    have Hn := Lib.hid hn
    have Hm := Lib.hid (hn.trans hl)
    clear hSa hSb hl hn hca hcb
    go_enter Tryz.func26, Tryz.ntmps26
    go_wp2_with fail
    go_loopw [5] (fun idx wr => ∃ i : Nat, i ≤ n ∧ idx = .int .i64 i ∧ Hid (∀ j, j < i → a.getD j 0 = b.getD j 0) ∧ Ext w wr) (fun idx _ => n - (intOf idx).toNat)
    case atStart => exact ⟨0, by omega, by go_num, Lib.hid (fun j h => by omega), Ext.refl _⟩
    case round =>
      obtain ⟨i, hi, rfl, Hz, hE⟩ := hrel
      generalize wr = X at *
      by_cases hlt : i < n
      · have hii : (i : Int) < (n : Int) := by omega
        have c1 := (HA.out.ext hE).cell i (.int .i64 (a[i]'(by rw [← Hn.out]; exact hlt))) (is_get (by rw [← Hn.out]; exact hlt))
        have c2 := (HB.out.ext hE).cell i (.int .i64 (b[i]'(by rw [← Hm.out]; exact hlt))) (is_get (by rw [← Hm.out]; exact hlt))
        obtain rfl := HA.out.addr (by rw [is_length, ← Hn.out]; omega)
        obtain rfl := HB.out.addr (by rw [is_length, ← Hm.out]; omega)
        obtain ⟨x, hx⟩ : ∃ x, x = a[i]'(by rw [← Hn.out]; exact hlt) := ⟨_, rfl⟩
        obtain ⟨y, hy⟩ : ∃ y, y = b[i]'(by rw [← Hm.out]; exact hlt) := ⟨_, rfl⟩
        rw [← hx] at c1
        rw [← hy] at c2
        have Hx := Lib.hid (show a.getD i 0 = x by rw [hx, getD_get (by rw [← Hn.out]; exact hlt)])
        have Hy := Lib.hid (show b.getD i 0 = y by rw [hy, getD_get (by rw [← Hm.out]; exact hlt)])
        clear hx hy
        by_cases hxy : x = y
        · subst hxy
          go_wp2_with fail
          go_quiet (fail)
          go_wp2_with fail
          go_roundw
          case rel => exact ⟨i + 1, by omega, by go_num, Lib.hid (fun j hj => by
            by_cases e : j = i
            · subst e; rw [Hx.out, Hy.out]
            · exact Hz.out j (by omega)), hE.drewN _⟩
          case measure => simp [intOf] <;> omega
        · have hb1 : (x == y) = false := beq_eq_false_iff_ne.2 hxy
          have hb2 : (x != y) = true := by simp [bne, hb1]
          have Hne := Lib.hid (show decide (a = b) = false from decide_eq_false (fun e => hxy (by rw [← Hx.out, ← Hy.out, e])))
          go_wp2_with fail
          go_quiet (fail)
          go_wp2_with fail
          go_ret
          exact ⟨by rw [Hne.out]; rfl, hE.drewN _⟩
      · have Heq := Lib.hid (show decide (a = b) = true from decide_eq_true (list_getD_ext (by rw [← Hn.out, ← Hm.out]) (fun j hj => Hz.out j (by rw [← Hn.out] at hj; omega))))
        go_wp2_with fail
        go_ret
        exact ⟨by rw [Heq.out]; rfl, hE⟩
  · have hne : decide (a = b) = false := decide_eq_false (fun e => hl (by rw [e]))
    rw [hne]
    have h1 : ¬ ((a.length : Int) = (b.length : Int)) := by omega
    have h2 : ((a.length : Int) == (b.length : Int)) = false := beq_eq_false_iff_ne.2 h1
    have h3 : ((a.length : Int) != (b.length : Int)) = true := by simp [bne, h2]
    clear hSa hSb hca hcb hne
    generalize a.length = n at *
    generalize b.length = m at *
    go_enter Tryz.func26, Tryz.ntmps26
    go_wp2_with fail
    go_ret
    exact ⟨rfl, Ext.refl _⟩
set_option maxRecDepth 100000 in
set_option maxHeartbeats 1000000 in
theorem Equal_any {w : World} {va vb : Value} {A B : Mx} (hA : MatR w va A) (hB : MatR w vb B) (hbig : A.length ≤ 1000000) (hbr : ∀ r ∈ A, r.length ≤ 1000000) :
    Calls Tryz.prog 17 #[va, vb] w fun e w' => e = .returned (.bool (decide (A = B))) ∧ Ext w w' := by
  obtain ⟨sa, ga, oa, ca, va', rfl, hca, hvA, hSa, hrA⟩ := hA
  obtain ⟨sb, gb, ob, cb, vb', rfl, hcb, hvB, hSb, hrB⟩ := hB
  by_cases hl : A.length = B.length
  · obtain ⟨n, hn⟩ : ∃ n, n = A.length := ⟨_, rfl⟩
    rw [← hl]
    rw [← hn] at hbig ⊢
    have HA := Lib.hid hSa
    have HB := Lib.hid hSb
    have HvA := Lib.hid hvA
    have HvB := Lib.hid hvB
    have HrA := Lib.hid hrA
    have HrB := Lib.hid hrB
    have Hn := Lib.hid hn
    have Hm := Lib.hid (hn.trans hl)
    clear hSa hSb hl hn hca hcb hvA hvB hrA hrB
    go_enter Tryz.func17, Tryz.ntmps17
    go_wp2_with fail
    go_loopw [5] (fun idx wr => ∃ i : Nat, i ≤ n ∧ idx = .int .i64 i ∧ Hid (∀ j, j < i → A.getD j [] = B.getD j []) ∧ Ext w wr) (fun idx _ => n - (intOf idx).toNat)
    case atStart => exact ⟨0, by omega, by go_num, Lib.hid (fun j h => by omega), Ext.refl _⟩
    case round =>
      obtain ⟨i, hi, rfl, Hz, hE⟩ := hrel
      generalize wr = X at *
      by_cases hlt : i < n
      · have hii : (i : Int) < (n : Int) := by omega
        have hiA : i < A.length := by rw [← Hn.out]; exact hlt
        have hiB : i < B.length := by rw [← Hm.out]; exact hlt
        obtain ⟨sx, bx, ox, cx, hrx, hcx, hSx⟩ := MatR.row HA.out HvA.out HrA.out hiA
        obtain ⟨sy, by', oy, cy, hry, hcy, hSy⟩ := MatR.row HB.out HvB.out HrB.out hiB
        obtain rfl := HA.out.addr (by rw [HvA.out]; omega)
        obtain rfl := HB.out.addr (by rw [HvB.out]; omega)
        have k1 := cell_regrown (hE.cell hrx)
        have k2 := cell_regrown (hE.cell hry)
        have hx1 : RowR X (.slice sx A[i].length cx) A[i] := ⟨sx, bx, ox, cx, rfl, hcx, hSx.ext hE⟩
        have hy1 : RowR X (.slice sy B[i].length cy) B[i] := ⟨sy, by', oy, cy, rfl, hcy, hSy.ext hE⟩
        obtain ⟨lx, hlx⟩ : ∃ l, l = A[i].length := ⟨_, rfl⟩
        obtain ⟨ly, hly⟩ : ∃ l, l = B[i].length := ⟨_, rfl⟩
        rw [← hlx] at k1 hx1
        rw [← hly] at k2 hy1
        clear hlx hly
        have hEQ := Lib.hid (fun V (hV : Ext X V) => EqualRows_any (w := V) (hx1.ext hV) (hy1.ext hV) (hbr _ (List.getElem_mem hiA)))
        have HxA := Lib.hid (show A.getD i [] = A[i] from getD_get hiA [])
        have HxB := Lib.hid (show B.getD i [] = B[i] from getD_get hiB [])
        obtain ⟨q, hq⟩ : ∃ q, q = decide (A[i] = B[i]) := ⟨_, rfl⟩
        rw [← hq] at hEQ
        have bE := Lib.hid (quietC (w := X) (fun V hV => hEQ.out V hV))
        have Hq := Lib.hid hq
        clear hrx hry hcx hcy hSx hSy hq hx1 hy1 hEQ
        cases q
        · have Hne := Lib.hid (show decide (A = B) = false from decide_eq_false (fun e => by
            have := Hq.out.symm
            rw [decide_eq_false_iff_not] at this
            exact this (by rw [← HxA.out, ← HxB.out, e])))
          clear Hq HxA HxB
          go_wp2_with fail
          refine wp_region_quiet_below (by kernel_rfl) (by kernel_rfl) ?_
          repeat (quiet_step (exact bE.out _ _))
          refine wpQuiet_nil ?_
          intro _ hw'
          obtain ⟨⟨dq, osq⟩, hw''⟩ := hw'
          subst hw''
          have hE2 := hE.trans (ext_regrown X dq osq)
          clear k1 k2 bE
          generalize hW6 : grow (redrawn _ _) _ = W6 at *
          clear hW6
          go_wp2_with fail
          go_ret
          exact ⟨by rw [Hne.out]; rfl, hE2⟩
        · have Hok := Lib.hid (show A.getD i [] = B.getD i [] by rw [HxA.out, HxB.out]; exact of_decide_eq_true Hq.out.symm)
          clear Hq HxA HxB
          go_wp2_with fail
          refine wp_region_quiet_below (by kernel_rfl) (by kernel_rfl) ?_
          repeat (quiet_step (exact bE.out _ _))
          refine wpQuiet_nil ?_
          intro _ hw'
          obtain ⟨⟨dq, osq⟩, hw''⟩ := hw'
          subst hw''
          have hE2 := hE.trans (ext_regrown X dq osq)
          clear k1 k2 bE
          generalize hW6 : grow (redrawn _ _) _ = W6 at *
          clear hW6
          go_wp2_with fail
          go_roundw
          case rel => exact ⟨i + 1, by omega, by go_num, Lib.hid (fun j hj => by
            by_cases e : j = i
            · subst e; exact Hok.out
            · exact Hz.out j (by omega)), hE2⟩
          case measure => simp [intOf] <;> omega
      · have Heq := Lib.hid (show decide (A = B) = true from decide_eq_true (mx_getD_ext (by rw [← Hn.out, ← Hm.out]) (fun j hj => Hz.out j (by rw [← Hn.out] at hj; omega))))
        go_wp2_with fail
        go_ret
        exact ⟨by rw [Heq.out]; rfl, hE⟩
  · have hne : decide (A = B) = false := decide_eq_false (fun e => hl (by rw [e]))
    rw [hne]
    have h1 : ¬ ((A.length : Int) = (B.length : Int)) := by omega
    have h2 : ((A.length : Int) == (B.length : Int)) = false := beq_eq_false_iff_ne.2 h1
    have h3 : ((A.length : Int) != (B.length : Int)) = true := by simp [bne, h2]
    clear hSa hSb hca hcb hne hrA hrB hvA hvB
    generalize A.length = n at *
    generalize B.length = m at *
    go_enter Tryz.func17, Tryz.ntmps17
    go_wp2_with fail
    go_ret
    exact ⟨rfl, Ext.refl _⟩
end Go.Proofs.YthmhmkkcjlgbjaaGreatDoor
/- literals in memory; the known answers in plain Lean -/
namespace Go.Proofs.YthmhmkkcjlgbjaaGreatDoor
open Go.RowKit Go.Sort
theorem row2 {W : World} {b : Nat} {x y : Int} (c0 : W.cell? ⟨b, 0, none⟩ = some (.int .i64 x)) (c1 : W.cell? ⟨b, 1, none⟩ = some (.int .i64 y)) : RowR W (.slice (some ⟨b, 0, none⟩) 2 2) [x, y] :=
  ⟨_, b, 0, 2, rfl, Nat.le_refl _, fun _ => rfl, fun i v hv => by
    match i, hv with
    | 0, hv => simp [is] at hv; rw [← hv]; exact c0
    | 1, hv => simp [is] at hv; rw [← hv]; exact c1
    | i + 2, hv => simp [is] at hv⟩
theorem row3 {W : World} {b : Nat} {x y z : Int} (c0 : W.cell? ⟨b, 0, none⟩ = some (.int .i64 x)) (c1 : W.cell? ⟨b, 1, none⟩ = some (.int .i64 y)) (c2 : W.cell? ⟨b, 2, none⟩ = some (.int .i64 z)) : RowR W (.slice (some ⟨b, 0, none⟩) 3 3) [x, y, z] :=
  ⟨_, b, 0, 3, rfl, Nat.le_refl _, fun _ => rfl, fun i v hv => by
    match i, hv with
    | 0, hv => simp [is] at hv; rw [← hv]; exact c0
    | 1, hv => simp [is] at hv; rw [← hv]; exact c1
    | 2, hv => simp [is] at hv; rw [← hv]; exact c2
    | i + 3, hv => simp [is] at hv⟩
theorem mat2 {W : World} {b : Nat} {v1 v2 : Value} {r1 r2 : List Int} (c0 : W.cell? ⟨b, 0, none⟩ = some v1) (c1 : W.cell? ⟨b, 1, none⟩ = some v2) (R1 : RowR W v1 r1) (R2 : RowR W v2 r2) : MatR W (.slice (some ⟨b, 0, none⟩) 2 2) [r1, r2] :=
  ⟨_, b, 0, 2, [v1, v2], rfl, Nat.le_refl _, rfl, ⟨fun _ => rfl, fun i v hv => by
    match i, hv with
    | 0, hv => simp at hv; rw [← hv]; exact c0
    | 1, hv => simp at hv; rw [← hv]; exact c1
    | i + 2, hv => simp at hv⟩, fun i h h' => by
    match i, h with
    | 0, _ => exact R1
    | 1, _ => exact R2⟩
theorem span2 {r1 r2 v : Hnf.V} (a b : Int) (h : ∀ j, v j = a * r1 j + b * r2 j) : Hnf.Span [r1, r2] v := by
  have e : v = Hnf.sub (Hnf.sub (fun _ => 0) (-a) r1) (-b) r2 := by
    funext j
    rw [h j]; simp only [Hnf.sub]; grind
  rw [e]
  exact Hnf.Span.step _ (Hnf.Span.step _ Hnf.Span.zero (by simp)) (by simp)
theorem vr3 {x y z x1 y1 z1 x2 y2 z2 : Int} (a b : Int) (h0 : x = a * x1 + b * x2) (h1 : y = a * y1 + b * y2) (h2 : z = a * z1 + b * z2) : ∀ j, vr [x, y, z] j = a * vr [x1, y1, z1] j + b * vr [x2, y2, z2] j
  | 0 => by simpa [vr] using h0
  | 1 => by simpa [vr] using h1
  | 2 => by simpa [vr] using h2
  | j + 3 => by simp [vr]
theorem known_hnf : HnfOf 3 [[-4, 4, -1], [7, 0, -3]] [[1, 20, -14], [0, 28, -19]] := by
  refine ⟨⟨_, isF_isH (fun r hr => ?_) (by decide)⟩, fun v hv => ?_, fun v hv => ?_⟩
  · simp at hr; rcases hr with rfl | rfl <;> rfl
  · simp only [latM, List.map_cons, List.map_nil, List.mem_cons, List.not_mem_nil, or_false] at hv
    rcases hv with rfl | rfl
    · exact span2 5 3 (vr3 5 3 (by decide) (by decide) (by decide))
    · exact span2 7 4 (vr3 7 4 (by decide) (by decide) (by decide))
  · simp only [latM, List.map_cons, List.map_nil, List.mem_cons, List.not_mem_nil, or_false] at hv
    rcases hv with rfl | rfl
    · exact span2 (-4) 3 (vr3 (-4) 3 (by decide) (by decide) (by decide))
    · exact span2 7 (-5) (vr3 7 (-5) (by decide) (by decide) (by decide))
theorem known_hnf2 : HnfOf 2 [[2, 0], [0, 3]] [[2, 0], [0, 3]] := by
  refine ⟨⟨_, isF_isH (fun r hr => ?_) (by decide)⟩, fun v hv => .mem hv, fun v hv => .mem hv⟩
  simp at hr; rcases hr with rfl | rfl <;> rfl
theorem known_c1 : checkM [[-4, 4, -1], [7, 0, -3]] = 0 := by decide
theorem known_k1 : bC ([[-4, 4, -1], [7, 0, -3]] : Mx).length 30 (ncols [[-4, 4, -1], [7, 0, -3]]) + 2 < LIM := by decide
theorem known_s1 : smallM [[1, 20, -14], [0, 28, -19]] = true := by decide
theorem known_o : openE [[2, 0], [0, 3]] [5, -1] = 0 := by decide
theorem known_x : redX [[2, 0], [0, 3]] [5, -1] = [1, 2] := by decide
theorem known_q : redQ [[2, 0], [0, 3]] [5, -1] = [2, -1] := by decide
theorem known_sm : (smallB [1, 2] && smallB [2, -1]) = true := by decide
theorem known_p : pairE [[1, 0], [0, 1]] [[2, 0], [0, 3]] = 0 := by decide
theorem known_k2 : 13 * (bC ([[2, 0], [0, 3]] : Mx).length 30 (ncols [[2, 0], [0, 3]]) + 2) < LIM := by decide
theorem known_in : inclB [[1, 0], [0, 1]] [[2, 0], [0, 3]] = true := by decide
theorem known_ix : idxN [[1, 0], [0, 1]] [[2, 0], [0, 3]] 2 = 6 := by decide
theorem I_six : I 6 = .string ⟨#[54]⟩ := by unfold I S; rw [show (6 : Int) = ((6 : Nat) : Int) from rfl, itoa_nat, Lib.decDigits]; rfl
theorem known_form {w : World} {v : Value} (hM : MatR w v [[-4, 4, -1], [7, 0, -3]]) (hL : Laid w) :
    Calls Tryz.prog 12 #[v] w fun e w' => ∃ u, e = .returned (.tuple #[u, .int .i64 0]) ∧ MatR w' u [[1, 20, -14], [0, 28, -19]] ∧ Ext w w' :=
  (form_any hM known_c1 known_k1 hL).mono fun e w' ⟨F, hF, hP, hE⟩ => by
    have : F = [[1, 20, -14], [0, 28, -19]] := hF.unique known_hnf (fun v hv => .mem hv) (fun v hv => .mem hv)
    subst this
    rw [if_pos known_s1] at hP
    obtain ⟨u, rfl, hO⟩ := hP
    exact ⟨u, rfl, hO.mat, hE⟩
theorem known_reduce {w : World} {v x : Value} (hM : MatR w v [[2, 0], [0, 3]]) (hx : RowR w x [5, -1]) (hL : Laid w) :
    Calls Tryz.prog 38 #[v, x] w fun e w' => ∃ u1 u2, e = .returned (.tuple #[u1, u2, .int .i64 0]) ∧ RowR w' u1 [1, 2] ∧ RowR w' u2 [2, -1] ∧ Ext w w' :=
  (Reduce_any hM hx hL).mono fun e w' ⟨hP, hE⟩ => by
    rw [if_pos known_o, known_x, known_q, if_pos known_sm] at hP
    obtain ⟨u1, u2, rfl, h1, h2⟩ := hP
    exact ⟨u1, u2, rfl, h1.row, h2.row, hE⟩
theorem known_index {w : World} {v u : Value} (hM : MatR w v [[1, 0], [0, 1]]) (hu : MatR w u [[2, 0], [0, 3]]) (hL : Laid w) :
    Calls Tryz.prog 14 #[v, u] w fun e w' => e = .returned (.tuple #[.string ⟨#[54]⟩, .bool true, .int .i64 0]) ∧ Ext w w' :=
  (Index_ok hM hu known_p known_k2 hL).mono fun e w' ⟨hP, hE⟩ => by
    rw [if_pos known_in] at hP
    obtain ⟨G, hG, hP⟩ := hP
    have : G = [[2, 0], [0, 3]] := hG.unique known_hnf2 (fun v hv => .mem hv) (fun v hv => .mem hv)
    subst this
    rw [if_neg (by decide), show ([[1, 0], [0, 1]] : Mx).length = 2 from rfl, known_ix, I_six] at hP
    exact ⟨hP, hE⟩
theorem eqr_same {w : World} {va vb : Value} {a : List Int} (hA : RowR w va a) (hB : RowR w vb a) (hb : a.length ≤ 1000000) :
    Calls Tryz.prog 26 #[va, vb] w fun e w' => e = .returned (.bool true) ∧ Ext w w' := by
  have := EqualRows_any hA hB hb
  rwa [decide_eq_true rfl] at this
theorem eqm_same {w : World} {va vb : Value} {A : Mx} (hA : MatR w va A) (hB : MatR w vb A) (hb : A.length ≤ 1000000) (hr : ∀ r ∈ A, r.length ≤ 1000000) :
    Calls Tryz.prog 17 #[va, vb] w fun e w' => e = .returned (.bool true) ∧ Ext w w' := by
  have := Equal_any hA hB hb hr
  rwa [decide_eq_true rfl] at this
end Go.Proofs.YthmhmkkcjlgbjaaGreatDoor
/- schismalaw07: known -/
namespace Go.Proofs.YthmhmkkcjlgbjaaGreatDoor
open Go.RowKit Go.Sort
set_option maxRecDepth 100000 in
set_option maxHeartbeats 2000000 in
theorem known_any {w : World} (hL : Laid w) : Calls Tryz.prog 10 #[] w fun e w' => e = .returned (.bool true) ∧ Ext w w' := by
  have HL := Lib.hid hL
  clear hL
  go_enter Tryz.func10, Tryz.ntmps10
  go_wp2_with fail
  refine (known_form (mat2 (v1 := .slice (some ⟨w.heap.size, 0, none⟩) 3 3) (v2 := .slice (some ⟨w.heap.size + 1, 0, none⟩) 3 3) (by go_simp) (by go_simp) (row3 (by go_simp) (by go_simp) (by go_simp)) (row3 (by go_simp) (by go_simp) (by go_simp))) (HL.out.ext ((((Ext.refl w).alloc _).alloc _).alloc _))).mono ?_
  rintro e w1 ⟨u, rfl, hu, hE1⟩
  have hE1' := Lib.hid (((((Ext.refl w).alloc _).alloc _).alloc _).trans hE1)
  have Hu := Lib.hid hu
  clear hu hE1
  go_wp2_with fail
  refine (known_reduce (mat2 (v1 := .slice (some ⟨w1.heap.size, 0, none⟩) 2 2) (v2 := .slice (some ⟨w1.heap.size + 1, 0, none⟩) 2 2) (by go_simp) (by go_simp) (row2 (by go_simp) (by go_simp)) (row2 (by go_simp) (by go_simp))) (row2 (by go_simp) (by go_simp)) (HL.out.ext (hE1'.out.trans (((((Ext.refl w1).alloc _).alloc _).alloc _).alloc _)))).mono ?_
  rintro e w2 ⟨u1, u2, rfl, hu1, hu2, hE2⟩
  have hE2' := Lib.hid (hE1'.out.trans ((((((Ext.refl w1).alloc _).alloc _).alloc _).alloc _).trans hE2))
  have Hu' := Lib.hid (Hu.out.ext ((((((Ext.refl w1).alloc _).alloc _).alloc _).alloc _).trans hE2))
  have Hu1 := Lib.hid hu1
  have Hu2 := Lib.hid hu2
  clear hu1 hu2 hE2 Hu hE1'
  go_wp2_with fail
  refine (known_index (mat2 (v1 := .slice (some ⟨w2.heap.size, 0, none⟩) 2 2) (v2 := .slice (some ⟨w2.heap.size + 1, 0, none⟩) 2 2) (by go_simp) (by go_simp) (row2 (by go_simp) (by go_simp)) (row2 (by go_simp) (by go_simp))) (mat2 (v1 := .slice (some ⟨w2.heap.size + 3, 0, none⟩) 2 2) (v2 := .slice (some ⟨w2.heap.size + 4, 0, none⟩) 2 2) (by go_simp) (by go_simp) (row2 (by go_simp) (by go_simp)) (row2 (by go_simp) (by go_simp))) (HL.out.ext (hE2'.out.trans (((((((Ext.refl w2).alloc _).alloc _).alloc _).alloc _).alloc _).alloc _)))).mono ?_
  rintro e w3 ⟨rfl, hE3⟩
  have hE23 := Lib.hid ((((((((Ext.refl w2).alloc _).alloc _).alloc _).alloc _).alloc _).alloc _).trans hE3)
  have hE3' := Lib.hid (hE2'.out.trans hE23.out)
  clear hE3 hE2'
  go_wp2_with fail
  refine (eqm_same (A := [[1, 20, -14], [0, 28, -19]]) (Hu'.out.ext (hE23.out.trans ((((Ext.refl w3).alloc _).alloc _).alloc _))) (mat2 (v1 := .slice (some ⟨w3.heap.size, 0, none⟩) 3 3) (v2 := .slice (some ⟨w3.heap.size + 1, 0, none⟩) 3 3) (by go_simp) (by go_simp) (row3 (by go_simp) (by go_simp) (by go_simp)) (row3 (by go_simp) (by go_simp) (by go_simp))) (by decide) (by decide)).mono ?_
  rintro e w4 ⟨rfl, hE4⟩
  have hE34 := Lib.hid (((((Ext.refl w3).alloc _).alloc _).alloc _).trans hE4)
  clear hE4
  go_wp2_with fail
  refine (eqr_same (a := [1, 2]) (Hu1.out.ext ((hE23.out.trans hE34.out).trans ((Ext.refl w4).alloc _))) (row2 (by go_simp) (by go_simp)) (by decide)).mono ?_
  rintro e w5 ⟨rfl, hE5⟩
  have hE45 := Lib.hid (((Ext.refl w4).alloc _).trans hE5)
  clear hE5
  go_wp2_with fail
  refine (eqr_same (a := [2, -1]) (Hu2.out.ext (((hE23.out.trans hE34.out).trans hE45.out).trans ((Ext.refl w5).alloc _))) (row2 (by go_simp) (by go_simp)) (by decide)).mono ?_
  rintro e w6 ⟨rfl, hE6⟩
  have hE56 := Lib.hid (((Ext.refl w5).alloc _).trans hE6)
  clear hE6
  go_wp2_with fail
  go_ret
  exact ⟨rfl, ((hE3'.out.trans hE34.out).trans hE45.out).trans hE56.out⟩
end Go.Proofs.YthmhmkkcjlgbjaaGreatDoor
