/- Part 29 of the proof of the claim: contracts of the functions that it reaches, and plain laws; no condition. -/
import Derived.Test.YthmhmkkcjlgbjaaGreatDoorV28
import Derived.Test.YthmhmkkcjlgbjaaGreatDoorV22
import Derived.Test.YthmhmkkcjlgbjaaGreatDoorV23
import Derived.Test.YthmhmkkcjlgbjaaGreatDoorV27
/- schismaref07: Size -/
namespace Go.Proofs.YthmhmkkcjlgbjaaGreatDoor
open Go.RowKit Go.Sort
/-- A box that holds an integer. -/
def BoxW (B : Nat) (w : World) (g : Nat) (z : Int) : Prop := ∃ b s n c, OwnV 66 B w g 2 [.bool b, .slice s n c] ∧ WhR w (.agg #[.bool b, .slice s n c]) z
theorem BoxW.ext {B g : Nat} {w w' : World} {z : Int} (h : BoxW B w g z) (he : Ext w w') : BoxW B w' g z := by
  obtain ⟨b, s, n, c, h1, h2⟩ := h; exact ⟨b, s, n, c, h1.ext he, h2.ext he⟩
theorem BoxW.set {B g : Nat} {w : World} {a b : Value} {z : Int} {x : Bool} {s : Option Addr} {n c : Nat} (h : OwnV 66 B w g 2 [a, b]) (hv : WhR w (.agg #[.bool x, .slice s n c]) z) :
    BoxW B ((w.setCell ⟨g, 0, none⟩ (.bool x)).setCell ⟨g, 1, none⟩ (.slice s n c)) g z ∧ w.grownBy ((w.setCell ⟨g, 0, none⟩ (.bool x)).setCell ⟨g, 1, none⟩ (.slice s n c)) (some g) := by
  obtain ⟨h1, h2⟩ := res_set h (.bool x) (.slice s n c)
  obtain ⟨d, e, hd⟩ := hv
  exact ⟨⟨x, s, n, c, h1, ⟨d, e, dig_kept h h2 hd⟩⟩, h2⟩
theorem pivP_bd {F : Mx} {E : Nat} (hF : AllB E F) : ∀ i, i ≤ F.length → (pivP F F i).natAbs ≤ 2 ^ (E * i)
  | 0, _ => by simp [pivP]
  | i + 1, h => by
    have ih := pivP_bd hF i (by omega)
    have h1 := getD_bd (Nat.two_pow_pos E) (hF (F.getD i []) (by rw [getD_get (by omega)]; exact List.getElem_mem _)) (pv (F.getD i []))
    rw [pivP, Int.natAbs_mul, Nat.mul_succ, Nat.pow_add]
    exact Nat.mul_le_mul ih (Nat.le_of_lt h1)
set_option maxRecDepth 100000 in
set_option maxHeartbeats 4000000 in
theorem size_w {w : World} {vf : Value} {F : Mx} {n E : Nat} (hF : MtR w vf F) (hRc : Rect n F) (hnl : n ≤ 1000000) (hP : ∀ i, i < F.length → pv (F.getD i []) < n ∧ 0 < (F.getD i []).getD (pv (F.getD i [])) 0)
    (hb : AllB E F) (hE : E * (F.length + 1) + 1 ≤ 2900000000) (hfl : F.length ≤ 1000) (hL : Laid w) :
    Calls Tryz.prog 35 #[vf] w (WhPost w (pivP F F F.length)) := by
  obtain ⟨sa, gb, go, cap, rfl, hS⟩ := hF.at
  have HP := Lib.hid hP
  have Hb := Lib.hid hb
  have HE := Lib.hid hE
  have HRc := Lib.hid hRc
  have Hpb := Lib.hid (pivP_bd hb)
  obtain ⟨m, hm⟩ : ∃ m, m = F.length := ⟨_, rfl⟩
  rw [← hm] at hfl ⊢
  have Hm := Lib.hid hm
  have hE1 := (Ext.refl w).alloc (.cells #[.bool false, .slice none 0 0] 66)
  have hO2 := own_alloc w 66 (.bool false) (.slice none 0 0)
  have hof := Lib.hid (of_w (n := 1) (by omega) (by omega) (hL.ext hE1))
  clear hP hb hRc hL hm hF hE
  go_enter Tryz.func35, Tryz.ntmps35
  go_wp2_with fail
  refine hof.out.mono ?_
  rintro e V ⟨v, rfl, hv, hEV⟩
  obtain ⟨b0, s0, n0, c0, rfl⟩ := hv.shape
  have HO2 := Lib.hid ((hO2.ext hEV).ext ((Ext.refl V).alloc (.cells #[.bool b0, .slice s0 n0 c0] 66)))
  have HBx := Lib.hid (show BoxW w.heap.size (V.alloc (.cells #[.bool b0, .slice s0 n0 c0] 66)) V.heap.size 1 from ⟨b0, s0, n0, c0, (own_alloc V 66 (.bool b0) (.slice s0 n0 c0)).mono (hE1.trans hEV).size, hv.ext ((Ext.refl V).alloc _)⟩)
  have hEA := (hE1.trans hEV).alloc (.cells #[.bool b0, .slice s0 n0 c0] 66)
  have hgV : w.heap.size < V.heap.size := by have := hEV.size; simp at this; omega
  clear hof hv hO2
  go_wp2_with fail
  generalize hVA : V.alloc (.cells #[.bool b0, .slice s0 n0 c0] 66) = VA at *
  have HVA := Lib.hid hVA
  have hVs : VA.heap.size = V.heap.size + 1 := by rw [← hVA]; simp
  obtain ⟨g3, hg3⟩ : ∃ g3, g3 = V.heap.size := ⟨_, rfl⟩
  rw [← hg3] at HBx hgV ⊢
  clear hVA hg3 hVs
  go_loopw [4] (fun idx wr => ∃ (i : Nat), i ≤ m ∧ idx = .int .i64 i ∧ Hid (BoxW w.heap.size wr g3 (pivP F F i)) ∧ Hid (OwnV 66 w.heap.size wr w.heap.size 2 [.bool false, .slice none 0 0]) ∧ Ext w wr) (fun idx _ => m - (intOf idx).toNat)
  case atStart => exact ⟨0, by omega, by go_num, HBx, HO2, hEA⟩
  case round =>
    obtain ⟨i, hi, rfl, hB, hO, hE⟩ := hrel
    generalize wr = X at *
    by_cases hlt : i < m
    · have hii : (i : Int) < (m : Int) := by omega
      have hir : i < F.length := by rw [← Hm.out]; exact hlt
      obtain ⟨rfl, sr, cr, k0, hw⟩ := hS.out i hir
      obtain ⟨r, hr⟩ : ∃ r, r = F[i] := ⟨_, rfl⟩
      have hmem : r ∈ F := by rw [hr]; exact List.getElem_mem hir
      have hrl := HRc.out _ hmem
      rw [← hr, hrl] at k0 hw
      have hrD : F.getD i [] = r := by rw [getD_get hir, hr]
      have hpv := HP.out i hir
      rw [hrD] at hpv
      have Hpv := Lib.hid hpv
      have Hrl := Lib.hid hrl
      have HrD := Lib.hid hrD
      have HrB := Lib.hid (Hb.out r hmem)
      have Hw := Lib.hid (hw.ext hE)
      have k0 := hE.cell k0
      clear hw hmem hr hrl hrD hpv
      go_wp2_with fail
      go_loopw [5] (fun ci wr => ∃ c : Nat, c ≤ pv r ∧ ci = .int .i64 c ∧ Ext X wr) (fun ci _ => n - (intOf ci).toNat)
      case atStart => exact ⟨0, by omega, by go_num, Ext.refl _⟩
      case round =>
        obtain ⟨c, hc, rfl, hEY⟩ := hrel
        generalize wr = Y at *
        have hcn : c < n := by have := Hpv.out.1; omega
        have hcc : (c : Int) < (n : Int) := by omega
        obtain ⟨-, gr, or, rfl, t1, m1, r1, e0, e1, hdr⟩ := (Hw.out.ext hEY).col (by rw [Hrl.out]; exact hcn)
        obtain ⟨b, hb⟩ : ∃ b, b = r.getD c 0 := ⟨_, rfl⟩
        rw [← hb] at e0 hdr
        have Hb1 := Lib.hid hb
        have hsg := Lib.hid (signW_w hdr)
        have k0Y := hEY.cell k0
        by_cases hb0 : b = 0
        · have hs : b.sign = 0 := by rw [hb0]; rfl
          rw [hs] at hsg
          have hc2 : c + 1 ≤ pv r := by
            rcases Nat.lt_or_ge c (pv r) with h | h
            · omega
            · have e : c = pv r := by omega
              have := Hpv.out.2
              rw [← e, ← Hb1.out] at this; omega
          generalize decide (b < 0) = bb at *
          clear hdr hb hb0 hs
          go_wp2_with fail
          refine hsg.out.mono ?_
          rintro e W1 ⟨rfl, hE1⟩
          have hE2 := hEY.trans hE1
          clear hsg
          go_wp2_with fail
          go_roundw
          case rel => exact ⟨c + 1, hc2, by go_num, hE2⟩
          case measure => simp [intOf] <;> omega
        · have hpvc : pv r = c := pv_first hc (by rw [← Hb1.out]; exact hb0)
          have hpos : 0 < b := by have := Hpv.out.2; rw [hpvc, ← Hb1.out] at this; exact this
          have hs : b.sign = 1 := Int.sign_eq_one_of_pos hpos
          rw [hs] at hsg
          have hEi : E * (i + 1) + 1 ≤ 2900000000 := Nat.le_trans (Nat.add_le_add_right (Nat.mul_le_mul_left _ (by omega)) 1) HE.out
          have hlp : (pc (pivP F F i).natAbs).length ≤ 100000000 := pc_bits (E := E * i + 1) (Nat.lt_of_le_of_lt (Hpb.out i (by omega)) (Nat.pow_lt_pow_right (by omega) (by omega))) (by
            have : E * i ≤ E * (i + 1) := Nat.mul_le_mul_left _ (by omega)
            omega)
          have hlb : (pc b.natAbs).length ≤ 100000000 := by
            rw [Hb1.out, getD_get (by rw [Hrl.out]; exact hcn : c < r.length)]
            exact pc_bits (HrB.out _ (List.getElem_mem _)) (by
              have : E * 1 ≤ E * (i + 1) := Nat.mul_le_mul_left _ (by omega)
              omega)
          have Hnx := Lib.hid (show pivP F F (i + 1) = pivP F F i * b by
            rw [pivP, HrD.out, hpvc, Hb1.out]
            unfold eM; rw [HrD.out])
          obtain ⟨P, hPe⟩ : ∃ P, P = pivP F F i := ⟨_, rfl⟩
          rw [← hPe] at hlp Hnx hB
          obtain ⟨b4, s4, n4, c4, hOb, hWb⟩ := hB.out.ext hEY
          have HOb := Lib.hid hOb
          have hmu := Lib.hid (fun V (hV : Ext Y V) => mulW_w (hWb.ext hV) (hdr.ext hV) (by omega) (by omega))
          have hEY2 := hE.trans hEY
          have hOr := Lib.hid (hO.out.ext hEY)
          generalize decide (b < 0) = bb at *
          clear hdr hWb hOb hb0 hs hlp hlb hpvc hpos hPe hB hO
          go_wp2_with fail
          refine hsg.out.mono ?_
          rintro e W ⟨rfl, hE1⟩
          replace k0Y := hE1.cell k0Y
          replace e0 := hE1.cell e0
          replace e1 := hE1.cell e1
          have HO1 := Lib.hid (HOb.out.ext hE1)
          have x0 := HO1.out.cell (j := 0) (by simp)
          have x1 := HO1.out.cell (j := 1) (by simp)
          have hEW := hEY2.trans hE1
          have hOr1 := Lib.hid (hOr.out.ext hE1)
          simp only [List.getElem_cons_zero, List.getElem_cons_succ] at x0 x1
          clear hsg HOb hOr
          go_wp2_with fail
          go_region_law (first
            | (go_simp; go_at_call 70; refine (hmu.out _ (hE1.trans ((Ext.refl _).drew))).mono ?_; rintro e W8 ⟨v8, rfl, hv8, hE10⟩; have d9 : Ext W W8 := ((Ext.refl W).drew).trans hE10; obtain ⟨b8, s8, n8, c8, rfl⟩ := hv8.shape; have HO8 := Lib.hid (OwnV.ext HO1.out d9); have y0 := OwnV.cell HO8.out (j := 0) (by simp); have y1 := OwnV.cell HO8.out (j := 1) (by simp); have z0 := OwnV.frozen HO8.out 0; have z1 := OwnV.frozen HO8.out 1; have Hv8 := Lib.hid hv8; clear hv8))
          all_goals
            obtain ⟨hB8, hG8⟩ := BoxW.set HO8.out Hv8.out
            rw [← Hnx.out] at hB8
            have HB8 := Lib.hid hB8
            have hOr8 := Lib.hid ((OwnV.ext hOr1.out d9).other hG8 (by omega))
            have hE11 := ext_trans_grown (hEW.trans d9) hG8 (by omega)
            clear hB8 hG8 hmu HO1 hOr1 Hv8
            generalize hWN : ((W8.setCell ⟨g3, 0, none⟩ (.bool b8)).setCell ⟨g3, 1, none⟩ (.slice s8 n8 c8)) = WN at *
            clear hWN x0 x1 y0 y1 z0 z1
            go_wp2_with fail
            go_roundw
            case rel => exact ⟨i + 1, by omega, by go_num, HB8, hOr8, hE11⟩
            case measure => simp [intOf] <;> omega
    · have hie : i = m := by omega
      subst hie
      obtain ⟨b4, s4, n4, c4, hOb, hWb⟩ := hB.out
      have x0 := hOb.cell (j := 0) (by simp)
      have x1 := hOb.cell (j := 1) (by simp)
      simp only [List.getElem_cons_zero, List.getElem_cons_succ] at x0 x1
      obtain ⟨bz, sv, n9, cv, hsh, q0, q1, q2, q3, p0, p1, hfin, _⟩ := res_end hE (Nat.le_refl _) hO.out hWb
      injection hsh with hsh
      injection hsh with hsh
      injection hsh with h1 h2
      injection h1 with h1
      injection h2 with h2 _
      injection h2 with h2 h3 h4
      subst h1 h2 h3 h4
      clear hOb hWb hB hO
      go_wp2_with fail
      refine bodyPost_ret (v := .agg #[.bool b4, .slice s4 n4 c4]) (by simp [results, Tryz.results35, go_sem, p0, p1]) rfl hfin.out
end Go.Proofs.YthmhmkkcjlgbjaaGreatDoor
/- hermite: Unimodular of a right matrix -/
namespace Go.Proofs.YthmhmkkcjlgbjaaGreatDoor
open Go.RowKit Go.Sort
theorem itoa_eq_one (z : Int) : (Lib.itoa z != [49]) = decide (z ≠ 1) := by
  have h1 : Lib.itoa 1 = [49] := by
    have := I_one
    unfold I S at this
    injection this with this
    have e := congrArg ByteArray.data this
    exact congrArg Array.toList e
  by_cases h : z = 1
  · subst h; rw [h1]; simp
  · rw [decide_eq_true h]
    simp only [bne_iff_ne, ne_eq]
    intro hc
    exact h (itoa_inj (hc.trans h1.symm))
/-- What Unimodular says. -/
def UnPost (w : World) (M : Mx) (e : Ending) (w' : World) : Prop :=
  ∃ b, e = .returned (.tuple #[.bool b, .int .i64 0]) ∧ (ncols M ≠ M.length → b = false) ∧ (ncols M = M.length → ∃ G, HnfOf (ncols M) M G ∧ (b = true ↔ (G.length = M.length ∧ ∀ i, i < M.length → eM G i i = 1))) ∧ Ext w w'
set_option maxRecDepth 100000 in
set_option maxHeartbeats 2000000 in
theorem Unimodular_ok {w : World} {v : Value} {S : Mx} (hS : MatR w v S) (hc2 : checkM S = 0) (hk : 13 * (bC S.length 30 (ncols S) + 2) < LIM) (hL : Laid w) :
    Calls Tryz.prog 23 #[v] w (UnPost w S) := by
  obtain ⟨hs12, ht12, hrectS, hentS⟩ := checkM_ok hc2
  have hck := Lib.hid (tableCheck_any hS)
  rw [hc2] at hck
  have HS := Lib.hid hS
  have HL := Lib.hid hL
  have HRS := Lib.hid hrectS
  have HeS := Lib.hid hentS
  have Hk := Lib.hid hk
  have hcol := Lib.hid (fun W (hW : Ext w W) => columns_any (HS.out.ext hW))
  have hli := Lib.hid (fun W (hW : Ext w W) => lines_any (n := ncols S) (HS.out.ext hW) HRS.out (by omega) (by omega) (fun r hr z hz => by have := HeS.out r hr z hz; unfold I64; omega) (HL.out.ext hW))
  obtain ⟨sf, _, _, cf, _, hvs, -⟩ := hS
  subst hvs
  clear hL hc2 hrectS hentS hk
  obtain ⟨m, hm⟩ : ∃ m, m = S.length := ⟨_, rfl⟩
  obtain ⟨c, hc⟩ : ∃ c, c = ncols S := ⟨_, rfl⟩
  have Hm := Lib.hid hm
  have Hc := Lib.hid hc
  rw [← hm] at hs12 hck
  rw [← hc] at ht12
  rw [← hm]
  clear hm hc
  by_cases hne : c = m
  · go_enter Tryz.func23, Tryz.ntmps23
    go_wp2_with fail
    refine hck.out.mono ?_
    rintro e w1 ⟨rfl, hE1⟩
    have hcol1 := Lib.hid (hcol.out w1 hE1)
    rw [← Hm.out, ← Hc.out] at hcol1
    clear hck hcol
    subst hne
    go_wp2_with fail
    refine hcol1.out.mono ?_
    rintro e w2 ⟨rfl, hE2⟩
    have hE12 := hE1.trans hE2
    have hli2 := Lib.hid (hli.out w2 hE12)
    rw [← Hm.out] at hli2
    clear hcol1 hli
    go_wp2_with fail
    refine hli2.out.mono ?_
    rintro e w3 ⟨v3, ad, rfl, hV, hE3⟩
    have hEw3 := hE12.trans hE3
    have hsh : ∃ ga cp, v3 = .slice ga c cp ∧ c ≤ cp ∧ (0 < c → ∃ g, ga = some ⟨g, 0, none⟩) := by
      have hr := hV.row
      rw [lines0_length, ← Hm.out] at hr
      rcases hr.2 with ⟨rfl, h0⟩ | ⟨g, cap, cur, rfl, hb, hg, hn, hm, hs, ht⟩
      · rw [h0]; exact ⟨none, 0, rfl, Nat.le_refl _, fun h => by omega⟩
      · exact ⟨_, cap, rfl, hn, fun _ => ⟨g, rfl⟩⟩
    obtain ⟨ga, cp, rfl, hcp, hgs⟩ := hsh
    have HV := Lib.hid hV
    clear hV hli2
    by_cases hn0 : c = 0
    · have HG := Lib.hid (show HnfOf (ncols S) S [] by rw [← Hc.out, hn0]; exact hnf_nil (M := S) (by rw [← hn0, Hc.out]; exact HRS.out))
      subst hn0
      go_wp2_with fail
      refine (echelon_zero rfl).mono ?_
      rintro e w5 ⟨rfl, rfl⟩
      go_wp2_with fail
      go_loopw [29] (fun idx wr => idx = .int .i64 0 ∧ wr = w5) (fun _ _ => 0)
      case atStart => exact ⟨rfl, rfl⟩
      case round =>
        obtain ⟨rfl, hwr⟩ := hrel
        subst hwr
        go_wp2_with fail
        go_ret2
        exact ⟨true, rfl, fun h => absurd (Hc.out.symm.trans Hm.out) h, fun _ => ⟨[], HG.out, ⟨fun _ => ⟨Hm.out, fun i hi => by rw [← Hm.out] at hi; omega⟩, fun _ => rfl⟩⟩, hEw3⟩
    · have hnp : 0 < c := by omega
      obtain ⟨g, rfl⟩ := hgs hnp
      have hlns : Lns w2.heap.size w3 g ad (lines0 S) := by
        have := HV.out
        have h2 : LnsV w2.heap.size w3 (slv g (lines0 S).length cp) ad (lines0 S) (ncols S) S.length := by rw [lines0_length, ← Hm.out]; exact this
        exact h2.lns (by rw [← Hc.out]; exact hnp)
      have hech := Lib.hid (echelon_walk (w0 := w2) (w := w3) (g := g) (cp := cp) (n := ncols S) (m := S.length) (L := S.length) (k := 30) (by simp) (by have := Hm.out; have := Hc.out; omega) (by have := Hm.out; have := Hc.out; omega) (by have := Hm.out; have := Hc.out; omega) (by have := Hm.out; have := Hc.out; omega) hlns (lines0_dim HRS.out) (lines0_all HeS.out) (by have := Hk.out; omega) (HL.out.ext hE12) hE3)
      rw [← Hm.out, ← Hc.out] at hech
      clear hlns hgs hn0 HV
      go_wp2_with fail
      refine hech.out.mono ?_
      rintro e w5 ⟨d, ps, ad', ls', rfl, hL5, hF5, hO5, hA5, hE5⟩
      rw [Hc.out] at hF5
      have HnF := form_of HRS.out hO5 hF5
      have hdl := hF5.le
      have hll : ls'.length = S.length := by rw [hO5.length]; simp
      have hGl := fRows_length hdl
      have hen := fun i (h : i < d) j => eM_fRows (d := d) (ls := ls') h j hdl
      have Hdim := Lib.hid ((lines0_dim HRS.out).ops hO5)
      have Hll := Lib.hid hll
      have hEw5 := hE12.trans hE5
      obtain ⟨G, hG⟩ : ∃ G, G = fRows d ls' := ⟨_, rfl⟩
      rw [← hG] at HnF hGl
      have Hen := Lib.hid (fun i (h : i < d) j => show eM G i j = en ls' i j by rw [hG]; exact hen i h j)
      have HG := Lib.hid HnF
      have HGl := Lib.hid hGl
      have hdS : d ≤ c := by have := Hm.out; omega
      have hcS : c = S.length := Hm.out
      have HcS := Lib.hid hcS
      have HcN := Lib.hid (show ncols S = S.length by rw [← Hc.out, ← Hm.out])
      clear hech hO5 hF5 hA5 hdl hll hen hG HnF hGl hcS
      by_cases hdF : d < c
      · have hdFi : (d : Int) < (c : Int) := by omega
        have hfin := Lib.hid (show UnPost w S (.returned (.tuple #[.bool false, .int .i64 0])) w5 from ⟨false, rfl, fun _ => rfl, fun _ => ⟨G, HG.out, ⟨(fun h => by cases h), (fun h => by have h1 := h.1; rw [HGl.out, ← HcS.out] at h1; omega)⟩⟩, hEw5⟩)
        go_wp2_with fail
        go_ret2
        exact hfin.out
      · have hdc : d = c := by omega
        subst hdc
        clear hdS hdF
        go_wp2_with fail
        go_loopw [29] (fun idx wr => ∃ i : Nat, i ≤ d ∧ idx = .int .i64 i ∧ Hid (∀ j, j < i → eM G j j = 1) ∧ Ext w5 wr) (fun idx _ => d - (intOf idx).toNat)
        case atStart => exact ⟨0, by omega, by go_num, Lib.hid (fun j h => by omega), Ext.refl _⟩
        case round =>
          obtain ⟨i, hi, rfl, hO, hE6⟩ := hrel
          generalize wr = X at *
          by_cases hlt : i < d
          · have hii : (i : Int) < (d : Int) := by omega
            obtain ⟨gx, cx, gy, cy, ead, c1, c2, cz, o1, o2, _, _, _⟩ := (hL5.ext hE6).ln (d := 0) (c := i) (i := i) (o := i * 2) Hdim.out (by rw [Hll.out, ← HcS.out]; omega) (by omega) (by rw [← Hc.out]; omega)
            have hen : cols i 0 ls' i = eM G i i := by
              rw [Hen.out i hlt]; unfold cols en; rw [Nat.zero_add]
            rw [hen] at cz
            rw [← Hc.out] at c1
            obtain ⟨z, hz⟩ : ∃ z, z = eM G i i := ⟨_, rfl⟩
            rw [← hz] at cz
            have Hz := Lib.hid hz
            have hitz := itoa_eq_one z
            have lgx := o1.lt.2
            have hE7 := hEw5.trans hE6
            clear hen hz o1 o2 ead
            by_cases hz1 : z = 1
            · rw [decide_eq_false (by simpa using hz1)] at hitz
              have hitz2 : (Lib.itoa z == [49]) = true := by simpa [bne] using hitz
              have HO2 := Lib.hid (show ∀ j, j < i + 1 → eM G j j = 1 from fun j hj => by
                by_cases e : j = i
                · subst e; rw [← Hz.out]; exact hz1
                · exact hO.out j (by omega))
              clear hz1
              go_wp2_with fail
              go_roundw
              case rel => exact ⟨i + 1, by omega, by go_num, HO2, hE6.alloc _⟩
              case measure => simp [intOf] <;> omega
            · rw [decide_eq_true hz1] at hitz
              have hitz2 : (Lib.itoa z == [49]) = false := by simpa [bne] using hitz
              have hfin := fun W (hW : Ext w W) => Lib.hid (show UnPost w S (.returned (.tuple #[.bool false, .int .i64 0])) W from ⟨false, rfl, fun _ => rfl, fun _ => ⟨G, HG.out, ⟨(fun h => by cases h), (fun h => absurd (by rw [Hz.out]; exact h.2 i (by rw [← HcS.out]; exact hlt)) hz1)⟩⟩, hW⟩)
              have Hfin := Lib.hid hfin
              clear hfin hz1
              go_wp2_with fail
              go_ret2
              exact (Hfin.out _ (hE7.alloc _)).out
          · have hie : i = d := by omega
            have hfin := Lib.hid (show UnPost w S (.returned (.tuple #[.bool true, .int .i64 0])) X from ⟨true, rfl, fun h => absurd HcN.out h, fun _ => ⟨G, HG.out, ⟨fun _ => ⟨by rw [HGl.out, ← HcS.out], fun j hj => hO.out j (by rw [← HcS.out] at hj; omega)⟩, fun _ => rfl⟩⟩, hEw5.trans hE6⟩)
            go_wp2_with fail
            go_ret2
            exact hfin.out
  · have hne2 : ((c : Int) != (m : Int)) = true := by simp [bne, beq_eq_false_iff_ne.2 (show (c : Int) ≠ (m : Int) by omega)]
    have hne1 : ((c : Int) == (m : Int)) = false := beq_eq_false_iff_ne.2 (by omega)
    have HcN := Lib.hid (show ncols S ≠ S.length by rw [← Hc.out, ← Hm.out]; exact hne)
    go_enter Tryz.func23, Tryz.ntmps23
    go_wp2_with fail
    refine hck.out.mono ?_
    rintro e w1 ⟨rfl, hE1⟩
    have hcol1 := Lib.hid (hcol.out w1 hE1)
    rw [← Hm.out, ← Hc.out] at hcol1
    clear hck hcol hne
    go_wp2_with fail
    refine hcol1.out.mono ?_
    rintro e w2 ⟨rfl, hE2⟩
    have hfin := Lib.hid (show UnPost w S (.returned (.tuple #[.bool false, .int .i64 0])) w2 from ⟨false, rfl, fun _ => rfl, fun h => absurd h HcN.out, hE1.trans hE2⟩)
    go_wp2_with fail
    go_ret2
    exact hfin.out
end Go.Proofs.YthmhmkkcjlgbjaaGreatDoor
/- Plain: the index by the reference's product of pivots -/
namespace Go.Proofs.YthmhmkkcjlgbjaaGreatDoor
open Hnf (V Span Ech Red)
theorem isH_pvi {n : Nat} {ps : List Nat} {F : Mx} (h : IsH n ps F) {i : Nat} (hi : i < F.length) : pv (F.getD i []) = ps.getD i 0 := by
  rw [isH_pv h, getD_map pv F i hi 0 []]
theorem isH_pvp {n : Nat} {ps : List Nat} {F : Mx} (h : IsH n ps F) : ∀ i, i < F.length → pv (F.getD i []) < n ∧ 0 < (F.getD i []).getD (pv (F.getD i [])) 0 := fun i hi => by
  rw [isH_pvi h hi]
  exact ⟨h.lt i hi, h.pos i hi⟩
theorem idx_floor {n : Nat} {F G : Mx} {ps qs : List Nat} (hF : IsH n ps F) (hG : IsH n qs G) (hs : ∀ v ∈ latM G, Span (latM F) v) (hl : F.length ≤ G.length) : G.length = F.length ∧ 0 < pivP F F F.length ∧ (pivP G G G.length).fdiv (pivP F F F.length) = idxN F G F.length := by
  obtain ⟨h1, h2⟩ := same_piv hF hG hs hl
  have h0 : ∀ i, i < F.length → 0 < eM F i (pv (F.getD i [])) := fun i hi => (isH_pvp hF i hi).2
  have e : ∀ i, i ≤ F.length → pivP G G i = pivP F G i := by
    intro i
    induction i with
    | zero => intro _; rfl
    | succ i ih =>
      intro hi
      rw [pivP, pivP, ih (by omega), isH_pvi hF (by omega), isH_pvi hG (by omega), (h2 i (by omega)).1]
  have hp := pivP_pos h0 F.length (Nat.le_refl _)
  have hm := idxN_mul (G := G) h0 (fun i hi => by rw [isH_pvi hF hi]; exact (h2 i hi).2) F.length (Nat.le_refl _)
  refine ⟨h1, hp, ?_⟩
  rw [h1, e F.length (Nat.le_refl _), ← hm, Int.mul_fdiv_cancel _ (by omega)]
theorem span_nil {v : V} (h : Span [] v) (j : Nat) : v j = 0 := span_col h fun r hr => by cases hr
theorem hnf_nil0 {n : Nat} {F : Mx} (h : HnfOf n [] F) : F.length = 0 := by
  obtain ⟨⟨ps, hI⟩, h1, _⟩ := h
  rcases Nat.eq_zero_or_pos F.length with h0 | h0
  · exact h0
  · have h2 := hI.pos 0 h0
    have h3 := span_nil (h1 (vr (F.getD 0 [])) (by rw [getD_get h0]; exact List.mem_map.2 ⟨F[0], List.getElem_mem h0, rfl⟩)) (ps.getD 0 0)
    unfold eM at h2
    unfold vr at h3
    omega
theorem ix_pair {M S F : Mx} {n : Nat} (hM : GridM M) (hS : GridM S) (hRM : Rect n M) (hRS : Rect n S) (hF : HnfOf (ncols M) M F) : pairE F S = 0 := by
  obtain ⟨_, hcF, hiF, hF4, hRF⟩ := grid_form hM hF
  obtain ⟨_, _, _, hcS⟩ := gridM_rect hS
  unfold pairE
  rw [if_pos hcF, if_pos hcS, if_pos hiF, if_neg]
  rintro ⟨a, b, c⟩
  refine c ?_
  rw [ncols_of hRF a, ncols_of hRS b]
  rcases Nat.eq_zero_or_pos M.length with h0 | h0
  · have e := List.eq_nil_of_length_eq_zero h0
    subst e
    have := hnf_nil0 hF
    omega
  · exact ncols_of hRM h0
/-- What the law's loop finds. -/
def inT (F S : Mx) (k : Nat) : Bool := (S.take k).all fun x => allZ (redX F x)
theorem inT_step {F S : Mx} {k : Nat} (h : k < S.length) : inT F S (k + 1) = (inT F S k && allZ (redX F S[k])) := by
  unfold inT
  rw [List.take_succ_eq_append_getElem h, List.all_append]
  simp
theorem allZ_zeroB (l : List Int) : allZ l = zeroB l := by
  rw [Bool.eq_iff_iff, zeroB_iff]
  unfold allZ zeroL
  rw [List.all_eq_true]
  exact ⟨fun h z hz => by simpa using h z hz, fun h z hz => by simpa using h z hz⟩
theorem inT_all {F S : Mx} {k : Nat} (h : S.length ≤ k) : inT F S k = inclB F S := by
  unfold inT
  rw [List.take_of_length_le h, Bool.eq_iff_iff, List.all_eq_true, inclB_iff]
  exact ⟨fun h x hx => by have := h x hx; rw [allZ_zeroB] at this; exact this, fun h x hx => by rw [allZ_zeroB]; exact h x hx⟩
theorem ix_span {F S : Mx} {n : Nat} {ps : List Nat} (hF : IsH n ps F) (hS : Rect n S) (h : inclB F S = true) : ∀ v ∈ latM S, Span (latM F) v := by
  intro v hv
  obtain ⟨x, hx, rfl⟩ := List.mem_map.1 hv
  exact (redX_zero hF (hS x hx)).1 (zeroB_iff.1 (inclB_iff.1 h x hx))
end Go.Proofs.YthmhmkkcjlgbjaaGreatDoor
/- schismaref07: Unimodular; what it says -/
namespace Go.Proofs.YthmhmkkcjlgbjaaGreatDoor
open Go.RowKit Go.Sort
theorem isH_diag {n : Nat} {ps : List Nat} {G : Mx} (hI : IsH n ps G) (hl : G.length = n) : ∀ i, i < n → ps.getD i 0 = i := by
  have hge : ∀ i, i < n → i ≤ ps.getD i 0 := by
    intro i
    induction i with
    | zero => intro _; omega
    | succ i ih => intro hi; have := ih (by omega); have := hI.inc i (i + 1) (by omega) (by omega); omega
  have hle : ∀ d i, i + d + 1 = n → ps.getD i 0 + d + 1 ≤ n := by
    intro d
    induction d with
    | zero => intro i hi; have := hI.lt i (by omega); omega
    | succ d ih => intro i hi; have := ih (i + 1) (by omega); have := hI.inc i (i + 1) (by omega) (by omega); omega
  intro i hi
  have := hge i hi
  have := hle (n - i - 1) i (by omega)
  omega
theorem mul_one_pos {a b : Int} (ha : 0 < a) (hb : 0 < b) (h : a * b = 1) : a = 1 ∧ b = 1 := by
  have h1 : a.natAbs * b.natAbs = 1 := by rw [← Int.natAbs_mul, h]; rfl
  have h2 := Nat.eq_one_of_mul_eq_one_right h1
  have h3 := Nat.eq_one_of_mul_eq_one_left h1
  omega
theorem uni_law {n : Nat} {ps : List Nat} {G : Mx} (hI : IsH n ps G) (hl : G.length = n) : (∀ i, i < n → eM G i i = 1) ↔ pivP G G G.length = 1 := by
  have hd := isH_diag hI hl
  have hp : ∀ i, i < n → pv (G.getD i []) = i := fun i hi => by rw [isH_pvi hI (by omega), hd i hi]
  have hpos : ∀ i, i < G.length → 0 < eM G i (pv (G.getD i [])) := fun i hi => (isH_pvp hI i hi).2
  rw [hl]
  have key : ∀ k, k ≤ n → ((∀ i, i < k → eM G i i = 1) ↔ pivP G G k = 1) := by
    intro k
    induction k with
    | zero => intro _; exact ⟨fun _ => rfl, fun _ i h => by omega⟩
    | succ k ih =>
      intro hk
      have ih := ih (by omega)
      rw [pivP, hp k (by omega)]
      have h1 := pivP_pos hpos k (by omega)
      have h2 := hpos k (by omega)
      rw [hp k (by omega)] at h2
      constructor
      · intro h
        rw [ih.1 fun i hi => h i (by omega), h k (by omega)]; rfl
      · intro h i hi
        obtain ⟨e1, e2⟩ := mul_one_pos h1 h2 h
        by_cases e : i = k
        · rw [e]; exact e2
        · exact ih.2 e1 i (by omega)
  exact key n (Nat.le_refl _)
def UrPost (w : World) (M : Mx) (e : Ending) (w' : World) : Prop :=
  ∃ b, e = .returned (.bool b) ∧ (M.length = 0 → b = true) ∧ (0 < M.length → M.length ≠ ncols M → b = false) ∧ (0 < M.length → M.length = ncols M → ∃ F, HnfOf (ncols M) M F ∧ (b = true ↔ F.length = M.length ∧ pivP F F F.length = 1)) ∧ Ext w w'
/-- Both say the same. -/
theorem uni_same {M : Mx} {b b' : Bool} (h1 : ncols M ≠ M.length → b = false) (h2 : ncols M = M.length → ∃ G, HnfOf (ncols M) M G ∧ (b = true ↔ (G.length = M.length ∧ ∀ i, i < M.length → eM G i i = 1)))
    (k1 : M.length = 0 → b' = true) (k2 : 0 < M.length → M.length ≠ ncols M → b' = false) (k3 : 0 < M.length → M.length = ncols M → ∃ F, HnfOf (ncols M) M F ∧ (b' = true ↔ F.length = M.length ∧ pivP F F F.length = 1)) : b = b' := by
  rcases Nat.eq_zero_or_pos M.length with h0 | h0
  · have e := List.eq_nil_of_length_eq_zero h0
    obtain ⟨G, hG, hb⟩ := h2 (by rw [e]; rfl)
    rw [k1 h0]
    refine hb.2 ⟨?_, fun i hi => by omega⟩
    subst e
    exact hnf_nil0 hG
  · by_cases hn : ncols M = M.length
    · obtain ⟨G, hG, hb⟩ := h2 hn
      obtain ⟨F, hF, hb'⟩ := k3 h0 hn.symm
      obtain rfl : G = F := hG.unique hF (fun v hv => .mem hv) (fun v hv => .mem hv)
      rw [Bool.eq_iff_iff, hb, hb']
      obtain ⟨⟨ps, hI⟩, _⟩ := hG
      rw [hn] at hI
      constructor
      · rintro ⟨e1, e2⟩; exact ⟨e1, (uni_law hI e1).1 e2⟩
      · rintro ⟨e1, e2⟩; exact ⟨e1, (uni_law hI e1).2 e2⟩
    · rw [h1 hn, k2 h0 (fun e => hn e.symm)]
set_option maxRecDepth 100000 in
set_option maxHeartbeats 2000000 in
theorem unimod07_any {w : World} {v : Value} {M : Mx} {E : Nat} (hM : MatR w v M) (hc : checkM M = 0) (hE : rkB M.length 30 (ncols M) = E) (hEl : E * (M.length + 1) + 1 ≤ 2900000000) (hL : Laid w) :
    Calls Tryz.prog 37 #[v] w (UrPost w M) := by
  obtain ⟨hm12, hn12, hrect, hent⟩ := checkM_ok hc
  have HL := Lib.hid hL
  have HRn := Lib.hid hrect
  have Hb30 := Lib.hid (show AllB 30 M from fun r hr z hz => by
    have e : (2 : Nat) ^ 30 = 1073741824 := by decide
    have := hent r hr z hz
    rw [e]; omega)
  have hto := Lib.hid (fun W (hW : Ext w W) => to_m (hM.ext hW) (fun r hr z hz => by have := hent r hr z hz; unfold I64; omega) (by omega) (fun r hr => by rw [hrect r hr]; omega) (hL.ext hW))
  have HE := Lib.hid hE
  have HEl := Lib.hid hEl
  obtain ⟨sa, gb, go, cap, vs, rfl, hcap, hvl, hSl, hr⟩ := hM
  have HSl := Lib.hid hSl
  have Hvl := Lib.hid hvl
  have Hr := Lib.hid hr
  obtain ⟨m, hm⟩ : ∃ m, m = M.length := ⟨_, rfl⟩
  obtain ⟨c, hcc⟩ : ∃ c, c = ncols M := ⟨_, rfl⟩
  have Hm := Lib.hid hm
  have Hc := Lib.hid hcc
  rw [← hm] at hm12 hcap
  rw [← hcc] at hn12
  rw [← hm]
  clear hc hrect hent hL hE hEl hSl hvl hr hm hcc
  by_cases h0 : m = 0
  · have hfin := fun W (hW : Ext w W) => Lib.hid (show UrPost w M (.returned (.bool true)) W from ⟨true, rfl, fun _ => rfl, fun h => absurd h (by rw [← Hm.out, h0]; omega), fun h => absurd h (by rw [← Hm.out, h0]; omega), hW⟩)
    have Hfin := Lib.hid hfin
    subst h0
    clear hfin
    go_enter Tryz.func37, Tryz.ntmps37
    go_wp2_with fail
    go_ret
    exact (Hfin.out _ (Ext.refl _)).out
  · have hmi : ¬ (m : Int) = 0 := by omega
    have hmb : ((m : Int) == 0) = false := beq_eq_false_iff_ne.2 hmi
    have hM0 : 0 < M.length := by rw [← Hm.out]; omega
    obtain rfl := HSl.out.addr (by rw [Hvl.out]; omega)
    obtain ⟨sr, br, or, cr, hrow, hrc, hSr⟩ := MatR.row HSl.out Hvl.out Hr.out hM0
    have hl0 : M[0].length = c := by rw [Hc.out]; exact HRn.out _ (List.getElem_mem hM0)
    rw [hl0, Nat.add_zero] at hrow
    clear hrc hSr hl0
    by_cases hne : m = c
    · have hto2 := Lib.hid (hto.out w (Ext.refl _))
      rw [← Hm.out] at hto2
      have Hne := Lib.hid hne
      subst hne
      clear hto
      go_enter Tryz.func37, Tryz.ntmps37
      go_wp2_with fail
      refine hto2.out.mono ?_
      rintro e w1 ⟨u1, rfl, hu1, hE1⟩
      have hfo := Lib.hid (form_w (k := 30) hu1.mat HRn.out (by rw [← Hm.out]; omega) (by rw [← Hc.out]; omega) Hb30.out (by
        rw [HE.out]
        have h1 : E * 1 ≤ E * (M.length + 1) := Nat.mul_le_mul_left _ (by omega)
        have := HEl.out
        omega) (HL.out.ext hE1))
      clear hto2 hu1
      go_wp2_with fail
      refine hfo.out.mono ?_
      rintro e w2 ⟨u2, F, rfl, hF, hB, hFl, hu2, hE2⟩
      have hE12 := hE1.trans hE2
      have HF := Lib.hid hF
      obtain ⟨⟨ps, hI⟩, -⟩ := hF
      rw [HE.out] at hB
      have hEF : E * (F.length + 1) + 1 ≤ 2900000000 := Nat.le_trans (Nat.add_le_add_right (Nat.mul_le_mul_left _ (by omega)) 1) HEl.out
      have hsz := Lib.hid (fun W (hW : Ext w2 W) => size_w (hu2.mat.ext hW) hI.rect (by rw [← Hc.out]; omega) (isH_pvp hI) hB hEF (by have := Hm.out; omega) (HL.out.ext (hE12.trans hW)))
      have hpl : (pc (pivP F F F.length).natAbs).length ≤ 100000000 := pc_bits (E := E * F.length + 1) (Nat.lt_of_le_of_lt (pivP_bd hB F.length (Nat.le_refl _)) (Nat.pow_lt_pow_right (by omega) (by omega))) (by
        have : E * F.length ≤ E * (F.length + 1) := Nat.mul_le_mul_left _ (by omega)
        omega)
      have hfr := Lib.hid (fun W (hW : Ext w2 W) (va : Value) (h : WhR W va (pivP F F F.length)) => from_w h hpl (HL.out.ext (hE12.trans hW)))
      obtain ⟨sg, _, _, cg, _, hvg, -⟩ := hu2.mat
      subst hvg
      obtain ⟨fn, hfn⟩ : ∃ fn, fn = F.length := ⟨_, rfl⟩
      obtain ⟨P, hP⟩ : ∃ P, P = pivP F F F.length := ⟨_, rfl⟩
      have Hfn := Lib.hid hfn
      have HP := Lib.hid hP
      have hfin := fun (b : Bool) W (hW : Ext w W) (hb : b = true ↔ fn = m ∧ P = 1) => Lib.hid (show UrPost w M (.returned (.bool b)) W from ⟨b, rfl, fun h => absurd h (by omega), fun _ h => absurd (Hm.out.symm.trans Hc.out) h, fun _ _ => ⟨F, HF.out, by rw [← Hfn.out, ← Hm.out, Hfn.out, ← HP.out, ← Hfn.out]; exact hb⟩, hW⟩)
      have Hfin := Lib.hid hfin
      have hsz2 := Lib.hid (hsz.out w2 (Ext.refl _))
      rw [← hfn, hfn, ← hP, ← hfn] at hsz2
      rw [← hP] at hfr
      rw [← hfn]
      clear hfo hu2 hI hB hEF hpl hfin hsz hfn hP
      by_cases hlen : fn = m
      · subst hlen
        have hitz := itoa_eq_one P
        have hE4f := fun W (hW : Ext w2 W) => hE12.trans hW
        clear hmb hmi
        by_cases hP1 : P = 1
        · rw [decide_eq_false (by simpa using hP1)] at hitz
          have hitz2 : (Lib.itoa P == [49]) = true := by simpa [bne] using hitz
          have Hfin2 := Lib.hid (fun W hW => Hfin.out true W hW ⟨fun _ => ⟨rfl, hP1⟩, fun _ => rfl⟩)
          clear hP1 Hfin
          go_wp2_with fail
          refine hsz2.out.mono ?_
          rintro e w3 ⟨z, rfl, hz, hE3⟩
          have hfr2 := Lib.hid (hfr.out w3 hE3 _ hz)
          obtain ⟨b1, s1, n1, k1, rfl⟩ := hz.shape
          clear hsz2 hfr hz
          go_wp2_with fail
          refine hfr2.out.mono ?_
          rintro e w4 ⟨rfl, hE4⟩
          have hEz := hE4f _ (hE3.trans hE4)
          clear hfr2 hE4f
          go_wp2_with fail
          go_ret
          exact (Hfin2.out _ hEz).out
        · rw [decide_eq_true hP1] at hitz
          have hitz2 : (Lib.itoa P == [49]) = false := by simpa [bne] using hitz
          have Hfin2 := Lib.hid (fun W hW => Hfin.out false W hW ⟨(fun h => by cases h), (fun h => absurd h.2 hP1)⟩)
          clear hP1 Hfin
          go_wp2_with fail
          refine hsz2.out.mono ?_
          rintro e w3 ⟨z, rfl, hz, hE3⟩
          have hfr2 := Lib.hid (hfr.out w3 hE3 _ hz)
          obtain ⟨b1, s1, n1, k1, rfl⟩ := hz.shape
          clear hsz2 hfr hz
          go_wp2_with fail
          refine hfr2.out.mono ?_
          rintro e w4 ⟨rfl, hE4⟩
          have hEz := hE4f _ (hE3.trans hE4)
          clear hfr2 hE4f
          go_wp2_with fail
          go_ret
          exact (Hfin2.out _ hEz).out
      · have hlb : ((fn : Int) == (m : Int)) = false := beq_eq_false_iff_ne.2 (by omega)
        have hli : ¬ (fn : Int) = (m : Int) := by omega
        go_wp2_with fail
        go_ret
        exact (Hfin.out false _ hE12 ⟨(fun h => by cases h), (fun h => absurd h.1 hlen)⟩).out
    · have hnb : ((m : Int) == (c : Int)) = false := beq_eq_false_iff_ne.2 (by omega)
      have hnb2 : ((m : Int) != (c : Int)) = true := by simp [bne, hnb]
      have hfin := fun W (hW : Ext w W) => Lib.hid (show UrPost w M (.returned (.bool false)) W from ⟨false, rfl, fun h => absurd h (by omega), fun _ _ => rfl, fun _ h => absurd h (by rw [← Hm.out, ← Hc.out]; exact hne), hW⟩)
      have Hfin := Lib.hid hfin
      clear hfin hne hto
      go_enter Tryz.func37, Tryz.ntmps37
      go_wp2_with fail
      go_ret
      exact (Hfin.out _ (Ext.refl _)).out
end Go.Proofs.YthmhmkkcjlgbjaaGreatDoor
/- schismalaw07: form -/
namespace Go.Proofs.YthmhmkkcjlgbjaaGreatDoor
open Go.RowKit Go.Sort
def FoPost (n : Nat) (M : Mx) (w : World) (e : Ending) (w' : World) : Prop := ∃ F, HnfOf n M F ∧ F.length ≤ M.length ∧ FmPost w.heap.size F w e w'
theorem FmPost.ext {B B' : Nat} {F : Mx} {w w1 : World} {e : Ending} {w' : World} (h : FmPost B F w1 e w') (hE : Ext w w1) (hB : B' ≤ B) : FmPost B' F w e w' := by
  rcases h with ⟨hs, u, he, hu, h⟩ | ⟨hs, he, h⟩
  · obtain ⟨vs, h1, h2, h3⟩ := hu
    exact .inl ⟨hs, u, he, ⟨vs, h1, ownsRow_mono h2 hB, fun t a b => (h3 t a b).mono hB⟩, hE.trans h⟩
  · exact .inr ⟨hs, he, hE.trans h⟩
set_option maxRecDepth 100000 in
set_option maxHeartbeats 1000000 in
theorem form07_any {w : World} {v : Value} {M : Mx} {n : Nat} (hM : MatR w v M) (hRc : Rect n M) (hml : M.length ≤ 1000000) (hnl : n ≤ 1000000) (hb : ∀ r ∈ M, ∀ z ∈ r, -1000000000 ≤ z ∧ z ≤ 1000000000) (hk : rkB M.length 30 n ≤ 2900000000) (hL : Laid w) :
    Calls Tryz.prog 28 #[v] w (FoPost n M w) := by
  have HL := Lib.hid hL
  have HRc := Lib.hid hRc
  have Hb30 := Lib.hid (show AllB 30 M from fun r hr z hz => by
    have e : (2 : Nat) ^ 30 = 1073741824 := by decide
    have := hb r hr z hz
    rw [e]; omega)
  have hto := Lib.hid (to_m hM (fun r hr z hz => by have := hb r hr z hz; unfold I64; omega) hml (fun r hr => by rw [hRc r hr]; exact hnl) hL)
  clear hM hRc hb hL
  go_enter Tryz.func28, Tryz.ntmps28
  go_wp2_with fail
  refine hto.out.mono ?_
  rintro e w1 ⟨v1, rfl, hv1, hE1⟩
  have hfo := Lib.hid (form_w hv1.mat HRc.out hml hnl Hb30.out hk (HL.out.ext hE1))
  clear hto hv1
  go_wp2_with fail
  refine hfo.out.mono ?_
  rintro e w2 ⟨v2, F, rfl, hH, hB, hFl, hv2, hE2⟩
  have hE12 := hE1.trans hE2
  have hsz := hE12.size
  have HH := Lib.hid hH
  have hfr := Lib.hid (from_m hv2.mat (fun r hr => bits_pc hk (hB r hr)) (by omega) (fun r hr => by
    obtain ⟨⟨ps, hI⟩, _⟩ := hH
    rw [hI.rect r hr]; exact hnl) (HL.out.ext hE12))
  clear hfo hv2 hB hH
  go_wp2_with fail
  refine hfr.out.mono ?_
  rintro e w3 hP
  have hP' := hP.ext hE12 hsz
  rcases hP with ⟨hs, u, rfl, hu, h⟩ | ⟨hs, rfl, h⟩
  · have hfin := Lib.hid (show FoPost n M w (.returned (.tuple #[u, .bool true])) w3 from ⟨F, HH.out, hFl, hP'⟩)
    clear hfr hP' hu
    go_wp2_with fail
    go_ret2
    exact hfin.out
  · have hfin := Lib.hid (show FoPost n M w (.returned (.tuple #[.slice none 0 0, .bool false])) w3 from ⟨F, HH.out, hFl, hP'⟩)
    clear hfr hP'
    go_wp2_with fail
    go_ret2
    exact hfin.out
end Go.Proofs.YthmhmkkcjlgbjaaGreatDoor
