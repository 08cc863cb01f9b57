/- Part 29 of the proof of the claim: contracts of the functions that it reaches, and plain laws; no condition. -/
import Derived.Test.YthmhmkkcjlgbjaaGreatDoorV28
import Derived.Test.YthmhmkkcjlgbjaaGreatDoorV22
import Derived.Deep.RegionHeld3
/- schismaref07: Size -/
namespace Go.Proofs.YthmhmkkcjlgbjaaGreatDoor
open Go.RowKit Go.Sort
/-- A box that holds an integer. -/
def BoxW (B : Nat) (w : World) (g : Nat) (z : Int) : Prop := ∃ b s n c, OwnV 66 B w g 2 [.bool b, .slice s n c] ∧ WhR w (.agg #[.bool b, .slice s n c]) z
theorem BoxW.ext {B g : Nat} {w w' : World} {z : Int} (h : BoxW B w g z) (he : Ext w w') : BoxW B w' g z := by
  obtain ⟨b, s, n, c, h1, h2⟩ := h; exact ⟨b, s, n, c, h1.ext he, h2.ext he⟩
theorem BoxW.set {B g : Nat} {w : World} {a b : Value} {z : Int} {x : Bool} {s : Option Addr} {n c : Nat} (h : OwnV 66 B w g 2 [a, b]) (hv : WhR w (.agg #[.bool x, .slice s n c]) z) :
    BoxW B ((w.setCell ⟨g, 0, none⟩ (.bool x)).setCell ⟨g, 1, none⟩ (.slice s n c)) g z ∧ w.grownBy ((w.setCell ⟨g, 0, none⟩ (.bool x)).setCell ⟨g, 1, none⟩ (.slice s n c)) (some g) := by
  obtain ⟨h1, h2⟩ := res_set h (.bool x) (.slice s n c)
  obtain ⟨d, e, hd⟩ := hv
  exact ⟨⟨x, s, n, c, h1, ⟨d, e, dig_kept h h2 hd⟩⟩, h2⟩
theorem pivP_bd {F : Mx} {E : Nat} (hF : AllB E F) : ∀ i, i ≤ F.length → (pivP F F i).natAbs ≤ 2 ^ (E * i)
  | 0, _ => by simp [pivP]
  | i + 1, h => by
    have ih := pivP_bd hF i (by omega)
    have h1 := getD_bd (Nat.two_pow_pos E) (hF (F.getD i []) (by rw [getD_get (by omega)]; exact List.getElem_mem _)) (pv (F.getD i []))
    rw [pivP, Int.natAbs_mul, Nat.mul_succ, Nat.pow_add]
    exact Nat.mul_le_mul ih (Nat.le_of_lt h1)
set_option maxRecDepth 100000 in
set_option maxHeartbeats 4000000 in
theorem size_w {w : World} {vf : Value} {F : Mx} {n E : Nat} (hF : MtR w vf F) (hRc : Rect n F) (hnl : n ≤ 1000000) (hP : ∀ i, i < F.length → pv (F.getD i []) < n ∧ 0 < (F.getD i []).getD (pv (F.getD i [])) 0)
    (hb : AllB E F) (hE : E * (F.length + 1) + 1 ≤ 2900000000) (hfl : F.length ≤ 1000) (hL : Laid w) :
    Calls Tryz.prog 35 #[vf] w (WhPost w (pivP F F F.length)) := by
  obtain ⟨sa, gb, go, cap, rfl, hS⟩ := hF.at
  have HP := Lib.hid hP
  have Hb := Lib.hid hb
  have HE := Lib.hid hE
  have HRc := Lib.hid hRc
  have Hpb := Lib.hid (pivP_bd hb)
  obtain ⟨m, hm⟩ : ∃ m, m = F.length := ⟨_, rfl⟩
  rw [← hm] at hfl ⊢
  have Hm := Lib.hid hm
  have hE1 := (Ext.refl w).alloc (.cells #[.bool false, .slice none 0 0] 66)
  have hO2 := own_alloc w 66 (.bool false) (.slice none 0 0)
  have hof := Lib.hid (of_w (n := 1) (by omega) (by omega) (hL.ext hE1))
  clear hP hb hRc hL hm hF hE
  go_enter Tryz.func35, Tryz.ntmps35
  go_wp2_with fail
  refine hof.out.mono ?_
  rintro e V ⟨v, rfl, hv, hEV⟩
  obtain ⟨b0, s0, n0, c0, rfl⟩ := hv.shape
  have HO2 := Lib.hid ((hO2.ext hEV).ext ((Ext.refl V).alloc (.cells #[.bool b0, .slice s0 n0 c0] 66)))
  have HBx := Lib.hid (show BoxW w.heap.size (V.alloc (.cells #[.bool b0, .slice s0 n0 c0] 66)) V.heap.size 1 from ⟨b0, s0, n0, c0, (own_alloc V 66 (.bool b0) (.slice s0 n0 c0)).mono (hE1.trans hEV).size, hv.ext ((Ext.refl V).alloc _)⟩)
  have hEA := (hE1.trans hEV).alloc (.cells #[.bool b0, .slice s0 n0 c0] 66)
  have hgV : w.heap.size < V.heap.size := by have := hEV.size; simp at this; omega
  clear hof hv hO2
  go_wp2_with fail
  generalize hVA : V.alloc (.cells #[.bool b0, .slice s0 n0 c0] 66) = VA at *
  have HVA := Lib.hid hVA
  have hVs : VA.heap.size = V.heap.size + 1 := by rw [← hVA]; simp
  obtain ⟨g3, hg3⟩ : ∃ g3, g3 = V.heap.size := ⟨_, rfl⟩
  rw [← hg3] at HBx hgV ⊢
  clear hVA hg3 hVs
  go_loopw [4] (fun idx wr => ∃ (i : Nat), i ≤ m ∧ idx = .int .i64 i ∧ Hid (BoxW w.heap.size wr g3 (pivP F F i)) ∧ Hid (OwnV 66 w.heap.size wr w.heap.size 2 [.bool false, .slice none 0 0]) ∧ Ext w wr) (fun idx _ => m - (intOf idx).toNat)
  case atStart => exact ⟨0, by omega, by go_num, HBx, HO2, hEA⟩
  case round =>
    obtain ⟨i, hi, rfl, hB, hO, hE⟩ := hrel
    generalize wr = X at *
    by_cases hlt : i < m
    · have hii : (i : Int) < (m : Int) := by omega
      have hir : i < F.length := by rw [← Hm.out]; exact hlt
      obtain ⟨rfl, sr, cr, k0, hw⟩ := hS.out i hir
      obtain ⟨r, hr⟩ : ∃ r, r = F[i] := ⟨_, rfl⟩
      have hmem : r ∈ F := by rw [hr]; exact List.getElem_mem hir
      have hrl := HRc.out _ hmem
      rw [← hr, hrl] at k0 hw
      have hrD : F.getD i [] = r := by rw [getD_get hir, hr]
      have hpv := HP.out i hir
      rw [hrD] at hpv
      have Hpv := Lib.hid hpv
      have Hrl := Lib.hid hrl
      have HrD := Lib.hid hrD
      have HrB := Lib.hid (Hb.out r hmem)
      have Hw := Lib.hid (hw.ext hE)
      have k0 := hE.cell k0
      clear hw hmem hr hrl hrD hpv
      go_wp2_with fail
      go_loopw [5] (fun ci wr => ∃ c : Nat, c ≤ pv r ∧ ci = .int .i64 c ∧ Ext X wr) (fun ci _ => n - (intOf ci).toNat)
      case atStart => exact ⟨0, by omega, by go_num, Ext.refl _⟩
      case round =>
        obtain ⟨c, hc, rfl, hEY⟩ := hrel
        generalize wr = Y at *
        have hcn : c < n := by have := Hpv.out.1; omega
        have hcc : (c : Int) < (n : Int) := by omega
        obtain ⟨-, gr, or, rfl, t1, m1, r1, e0, e1, hdr⟩ := (Hw.out.ext hEY).col (by rw [Hrl.out]; exact hcn)
        obtain ⟨b, hb⟩ : ∃ b, b = r.getD c 0 := ⟨_, rfl⟩
        rw [← hb] at e0 hdr
        have Hb1 := Lib.hid hb
        have hsg := Lib.hid (signW_w hdr)
        have k0Y := hEY.cell k0
        by_cases hb0 : b = 0
        · have hs : b.sign = 0 := by rw [hb0]; rfl
          rw [hs] at hsg
          have hc2 : c + 1 ≤ pv r := by
            rcases Nat.lt_or_ge c (pv r) with h | h
            · omega
            · have e : c = pv r := by omega
              have := Hpv.out.2
              rw [← e, ← Hb1.out] at this; omega
          generalize decide (b < 0) = bb at *
          clear hdr hb hb0 hs
          go_wp2_with fail
          refine hsg.out.mono ?_
          rintro e W1 ⟨rfl, hE1⟩
          have hE2 := hEY.trans hE1
          clear hsg
          go_wp2_with fail
          go_roundw
          case rel => exact ⟨c + 1, hc2, by go_num, hE2⟩
          case measure => simp [intOf] <;> omega
        · have hpvc : pv r = c := pv_first hc (by rw [← Hb1.out]; exact hb0)
          have hpos : 0 < b := by have := Hpv.out.2; rw [hpvc, ← Hb1.out] at this; exact this
          have hs : b.sign = 1 := Int.sign_eq_one_of_pos hpos
          rw [hs] at hsg
          have hEi : E * (i + 1) + 1 ≤ 2900000000 := Nat.le_trans (Nat.add_le_add_right (Nat.mul_le_mul_left _ (by omega)) 1) HE.out
          have hlp : (pc (pivP F F i).natAbs).length ≤ 100000000 := pc_bits (E := E * i + 1) (Nat.lt_of_le_of_lt (Hpb.out i (by omega)) (Nat.pow_lt_pow_right (by omega) (by omega))) (by
            have : E * i ≤ E * (i + 1) := Nat.mul_le_mul_left _ (by omega)
            omega)
          have hlb : (pc b.natAbs).length ≤ 100000000 := by
            rw [Hb1.out, getD_get (by rw [Hrl.out]; exact hcn : c < r.length)]
            exact pc_bits (HrB.out _ (List.getElem_mem _)) (by
              have : E * 1 ≤ E * (i + 1) := Nat.mul_le_mul_left _ (by omega)
              omega)
          have Hnx := Lib.hid (show pivP F F (i + 1) = pivP F F i * b by
            rw [pivP, HrD.out, hpvc, Hb1.out]
            unfold eM; rw [HrD.out])
          obtain ⟨P, hPe⟩ : ∃ P, P = pivP F F i := ⟨_, rfl⟩
          rw [← hPe] at hlp Hnx hB
          obtain ⟨b4, s4, n4, c4, hOb, hWb⟩ := hB.out.ext hEY
          have HOb := Lib.hid hOb
          have hmu := Lib.hid (fun V (hV : Ext Y V) => mulW_w (hWb.ext hV) (hdr.ext hV) (by omega) (by omega))
          have hEY2 := hE.trans hEY
          have hOr := Lib.hid (hO.out.ext hEY)
          generalize decide (b < 0) = bb at *
          clear hdr hWb hOb hb0 hs hlp hlb hpvc hpos hPe hB hO
          go_wp2_with fail
          refine hsg.out.mono ?_
          rintro e W ⟨rfl, hE1⟩
          replace k0Y := hE1.cell k0Y
          replace e0 := hE1.cell e0
          replace e1 := hE1.cell e1
          have HO1 := Lib.hid (HOb.out.ext hE1)
          have x0 := HO1.out.cell (j := 0) (by simp)
          have x1 := HO1.out.cell (j := 1) (by simp)
          have hEW := hEY2.trans hE1
          have hOr1 := Lib.hid (hOr.out.ext hE1)
          simp only [List.getElem_cons_zero, List.getElem_cons_succ] at x0 x1
          clear hsg HOb hOr
          go_wp2_with fail
          go_region_law (first
            | (go_simp; go_at_call 70; refine (hmu.out _ (hE1.trans ((Ext.refl _).drew))).mono ?_; rintro e W8 ⟨v8, rfl, hv8, hE10⟩; have d9 : Ext W W8 := ((Ext.refl W).drew).trans hE10; obtain ⟨b8, s8, n8, c8, rfl⟩ := hv8.shape; have HO8 := Lib.hid (OwnV.ext HO1.out d9); have y0 := OwnV.cell HO8.out (j := 0) (by simp); have y1 := OwnV.cell HO8.out (j := 1) (by simp); have z0 := OwnV.frozen HO8.out 0; have z1 := OwnV.frozen HO8.out 1; have Hv8 := Lib.hid hv8; clear hv8))
          all_goals
            obtain ⟨hB8, hG8⟩ := BoxW.set HO8.out Hv8.out
            rw [← Hnx.out] at hB8
            have HB8 := Lib.hid hB8
            have hOr8 := Lib.hid ((OwnV.ext hOr1.out d9).other hG8 (by omega))
            have hE11 := ext_trans_grown (hEW.trans d9) hG8 (by omega)
            clear hB8 hG8 hmu HO1 hOr1 Hv8
            generalize hWN : ((W8.setCell ⟨g3, 0, none⟩ (.bool b8)).setCell ⟨g3, 1, none⟩ (.slice s8 n8 c8)) = WN at *
            clear hWN x0 x1 y0 y1 z0 z1
            go_wp2_with fail
            go_roundw
            case rel => exact ⟨i + 1, by omega, by go_num, HB8, hOr8, hE11⟩
            case measure => simp [intOf] <;> omega
    · have hie : i = m := by omega
      subst hie
      obtain ⟨b4, s4, n4, c4, hOb, hWb⟩ := hB.out
      have x0 := hOb.cell (j := 0) (by simp)
      have x1 := hOb.cell (j := 1) (by simp)
      simp only [List.getElem_cons_zero, List.getElem_cons_succ] at x0 x1
      obtain ⟨bz, sv, n9, cv, hsh, q0, q1, q2, q3, p0, p1, hfin, _⟩ := res_end hE (Nat.le_refl _) hO.out hWb
      injection hsh with hsh
      injection hsh with hsh
      injection hsh with h1 h2
      injection h1 with h1
      injection h2 with h2 _
      injection h2 with h2 h3 h4
      subst h1 h2 h3 h4
      clear hOb hWb hB hO
      go_wp2_with fail
      refine bodyPost_ret (v := .agg #[.bool b4, .slice s4 n4 c4]) (by simp [results, Tryz.results35, go_sem, p0, p1]) rfl hfin.out
end Go.Proofs.YthmhmkkcjlgbjaaGreatDoor
/- schismaref07: Product -/
namespace Go.Proofs.YthmhmkkcjlgbjaaGreatDoor
open Go.RowKit Go.Sort
/-- The sum of the first k products of a row and a column. -/
def dotB (a : List Int) (B : Mx) (c : Nat) : Nat → Int
  | 0 => 0
  | k + 1 => dotB a B c k + a.getD k 0 * eM B k c
def prodR (a : List Int) (B : Mx) (n : Nat) : List Int := (List.range n).map fun c => dotB a B c B.length
theorem prodR_length (a : List Int) (B : Mx) (n : Nat) : (prodR a B n).length = n := by simp [prodR]
theorem prodR_snoc (a : List Int) (B : Mx) (c : Nat) : prodR a B (c + 1) = prodR a B c ++ [dotB a B c B.length] := by
  unfold prodR; rw [List.range_succ, List.map_append]; rfl
theorem prodR_getD {a : List Int} {B : Mx} {n c : Nat} (h : c < n) : (prodR a B n).getD c 0 = dotB a B c B.length := by
  unfold prodR; simp [List.getD_eq_getElem?_getD, h]
theorem dotB_bd {a : List Int} {B : Mx} {c : Nat} (ha : ∀ z ∈ a, z.natAbs < 2 ^ 30) (hB : ∀ r ∈ B, ∀ z ∈ r, z.natAbs < 2 ^ 30) : ∀ k, (dotB a B c k).natAbs ≤ k * 2 ^ 60
  | 0 => by simp [dotB]
  | k + 1 => by
    have ih := dotB_bd (c := c) ha hB k
    have h1 := getD_bd (Nat.two_pow_pos 30) ha k
    have h2 : (eM B k c).natAbs < 2 ^ 30 := by
      unfold eM
      rcases Nat.lt_or_ge k B.length with hk | hk
      · rw [getD_get hk]; exact getD_bd (Nat.two_pow_pos 30) (hB _ (List.getElem_mem hk)) c
      · have e : B.getD k [] = [] := by rw [List.getD_eq_getElem?_getD, List.getElem?_eq_none hk]; rfl
        rw [e]
        show (0 : Int).natAbs < 2 ^ 30
        decide
    have h3 : (a.getD k 0 * eM B k c).natAbs ≤ 2 ^ 60 := by
      rw [Int.natAbs_mul, show (2 : Nat) ^ 60 = 2 ^ 30 * 2 ^ 30 by rw [← Nat.pow_add]]
      exact Nat.mul_le_mul (Nat.le_of_lt h1) (Nat.le_of_lt h2)
    rw [dotB, Nat.succ_mul]
    generalize a.getD k 0 * eM B k c = t at *
    generalize (2 : Nat) ^ 60 = E at *
    omega
theorem dotB_pc {a : List Int} {B : Mx} {c k : Nat} (ha : ∀ z ∈ a, z.natAbs < 2 ^ 30) (hB : ∀ r ∈ B, ∀ z ∈ r, z.natAbs < 2 ^ 30) (hk : k ≤ 1000) : (pc (dotB a B c k).natAbs).length ≤ 4 := by
  have h := dotB_bd (c := c) ha hB k
  refine pc_bits (E := 70) (Nat.lt_of_le_of_lt h ?_) (by omega)
  rw [show (2 : Nat) ^ 70 = 1024 * 2 ^ 60 by rw [show (1024 : Nat) = 2 ^ 10 by decide, ← Nat.pow_add]]
  exact Nat.mul_lt_mul_of_pos_right (by omega) (Nat.two_pow_pos 60)
theorem keep6 {w w' : World} {p q r s t u : Addr} {a b c d e f : Value} (he : Ext w w') (h1 : w.cell? p = some a) (h2 : w.cell? q = some b) (h3 : w.cell? r = some c) (h4 : w.cell? s = some d) (h5 : w.cell? t = some e) (h6 : w.cell? u = some f) : w'.cell? p = some a ∧ w'.cell? q = some b ∧ w'.cell? r = some c ∧ w'.cell? s = some d ∧ w'.cell? t = some e ∧ w'.cell? u = some f := ⟨he.cell h1, he.cell h2, he.cell h3, he.cell h4, he.cell h5, he.cell h6⟩
/-- The product's rows. -/
def prodM (A B : Mx) (n : Nat) : Mx := A.map fun a => prodR a B n
set_option maxRecDepth 100000 in
set_option maxHeartbeats 4000000 in
theorem product_w {w : World} {va vb : Value} {A B : Mx} {n m : Nat} (hA : MtR w va A) (hB : MtR w vb B) (hRA : Rect m A) (hRB : Rect n B) (hm : B.length = m) (hm9 : m ≤ 1000) (hn9 : n ≤ 1000) (hl9 : A.length ≤ 1000)
    (hbA : ∀ r ∈ A, ∀ z ∈ r, z.natAbs < 2 ^ 30) (hbB : ∀ r ∈ B, ∀ z ∈ r, z.natAbs < 2 ^ 30) (hL : Laid w) :
    Calls Tryz.prog 77 #[va, vb, .int .i64 n] w fun e w' => ∃ u, e = .returned u ∧ MtO w.heap.size w' u (prodM A B n) ∧ Ext w w' := by
  obtain ⟨sa, ga, oa, ca, rfl, hSa⟩ := hA.at
  obtain ⟨sb, gb, ob, cb, rfl, hSb⟩ := hB.at
  have HbA := Lib.hid hbA
  have HbB := Lib.hid hbB
  have HRA := Lib.hid hRA
  have HRB := Lib.hid hRB
  have HL := Lib.hid hL
  have Hm := Lib.hid hm
  obtain ⟨l, hl⟩ : ∃ l, l = A.length := ⟨_, rfl⟩
  have Hl := Lib.hid hl
  rw [← hl] at hl9 ⊢
  rw [hm]
  clear hA hB hbA hbB hRA hRB hL hm hl
  go_enter Tryz.func77, Tryz.ntmps77
  go_wp2_with fail
  go_loopw [7, 8] (fun out idx wr => ∃ i : Nat, i ≤ l ∧ idx = .int .i64 i ∧ Hid (MtO w.heap.size wr out (prodM (A.take i) B n)) ∧ Ext w wr) (fun _ idx _ => l - (intOf idx).toNat)
  case atStart => exact ⟨0, by omega, by go_num, Lib.hid (MtO.nil _ _), Ext.refl _⟩
  case round =>
    obtain ⟨i, hi, rfl, hO, hE⟩ := hrel
    generalize wr = X at *
    by_cases hlt : i < l
    · have hii : (i : Int) < (l : Int) := by omega
      have hir : i < A.length := by rw [← Hl.out]; exact hlt
      obtain ⟨rfl, sr, cr, k0, hw⟩ := hSa.out i hir
      obtain ⟨a, ha⟩ : ∃ a, a = A[i] := ⟨_, rfl⟩
      have hmem : a ∈ A := by rw [ha]; exact List.getElem_mem hir
      have hal := HRA.out a hmem
      rw [← ha, hal] at k0 hw
      have Ha := Lib.hid ha
      have Hal := Lib.hid hal
      have Hab := Lib.hid (HbA.out a hmem)
      have Hw := Lib.hid hw
      have k0X := hE.cell k0
      clear ha hal hmem hw
      go_wp2_with fail
      go_loopw [9, 10] (fun row idx wr => ∃ c : Nat, c ≤ n ∧ idx = .int .i64 c ∧ Hid (RwV X.heap.size wr row (prodR a B c)) ∧ Ext X wr) (fun _ idx _ => n - (intOf idx).toNat)
      case atStart => exact ⟨0, by omega, by go_num, Lib.hid (RwV.nil _ _), Ext.refl _⟩
      case round =>
        obtain ⟨c, hc, rfl, hR, hEY⟩ := hrel
        generalize wr = Y at *
        by_cases hltc : c < n
        · have hci : (c : Int) < (n : Int) := by omega
          have hof := Lib.hid (of_w (n := 0) (by omega) (by omega) (HL.out.ext (hE.trans hEY)))
          go_wp2_with fail
          refine hof.out.mono ?_
          rintro e V ⟨v, rfl, hv, hEV⟩
          obtain ⟨b0, s0, n0, c0, rfl⟩ := hv.shape
          have HBx := Lib.hid (show BoxW Y.heap.size (V.alloc (.cells #[.bool b0, .slice s0 n0 c0] 66)) V.heap.size (dotB a B c 0) from ⟨b0, s0, n0, c0, (own_alloc V 66 (.bool b0) (.slice s0 n0 c0)).mono hEV.size, hv.ext ((Ext.refl V).alloc _)⟩)
          have hEA := hEV.alloc (.cells #[.bool b0, .slice s0 n0 c0] 66)
          have hYV := hEV.size
          clear hof hv
          go_wp2_with fail
          generalize hVA : V.alloc (.cells #[.bool b0, .slice s0 n0 c0] 66) = VA at *
          obtain ⟨g3, hg3⟩ : ∃ g3, g3 = V.heap.size := ⟨_, rfl⟩
          rw [← hg3] at HBx hYV ⊢
          clear hVA hg3
          go_loopw [12] (fun idx wr => ∃ k : Nat, k ≤ m ∧ idx = .int .i64 k ∧ Hid (BoxW Y.heap.size wr g3 (dotB a B c k)) ∧ Ext Y wr) (fun idx _ => m - (intOf idx).toNat)
          case atStart => exact ⟨0, by omega, by go_num, HBx, hEA⟩
          case round =>
            obtain ⟨k, hk, rfl, hBk, hEZ⟩ := hrel
            generalize wr = Z at *
            have hwZ := (hE.trans hEY).trans hEZ
            obtain ⟨b4, s4, n4, c4, hOb, hWb⟩ := hBk.out
            have HOb := Lib.hid hOb
            have hg3l := hOb.lt.1
            have hYw := (hE.trans hEY).size
            by_cases hltk : k < m
            · have hki : (k : Int) < (m : Int) := by omega
              have hkB : k < B.length := by rw [Hm.out]; exact hltk
              obtain ⟨rfl, sr2, cr2, kb, hw2⟩ := hSb.out k hkB
              obtain ⟨b, hb⟩ : ∃ b, b = B[k] := ⟨_, rfl⟩
              have hbm : b ∈ B := by rw [hb]; exact List.getElem_mem hkB
              have hbl := HRB.out b hbm
              rw [← hb, hbl] at kb hw2
              obtain ⟨-, gr, or, rfl, t1, m1, r1, e0, e1, hda⟩ := Hw.out.col (c := k) (by rw [Hal.out]; exact hltk)
              obtain ⟨-, gq, oq, rfl, t2, m2, r2, f0, f1, hdb⟩ := hw2.col (c := c) (by rw [hbl]; exact hltc)
              have heb : eM B k c = b.getD c 0 := by unfold eM; rw [getD_get hkB, hb]
              have hpa : (pc (a.getD k 0).natAbs).length ≤ 100000000 := by
                rw [getD_get (by rw [Hal.out]; exact hltk : k < a.length)]
                exact pc_bits (Hab.out _ (List.getElem_mem _)) (by omega)
              have hpb : (pc (b.getD c 0).natAbs).length ≤ 100000000 := by
                rw [getD_get (by rw [hbl]; exact hltc : c < b.length)]
                exact pc_bits (HbB.out b hbm _ (List.getElem_mem _)) (by omega)
              have hps := dotB_pc (a := a) (B := B) (c := c) (k := k) Hab.out HbB.out (by omega)
              obtain ⟨P, hP⟩ : ∃ P, P = dotB a B c k := ⟨_, rfl⟩
              obtain ⟨p, hp⟩ : ∃ p, p = a.getD k 0 := ⟨_, rfl⟩
              obtain ⟨q, hq⟩ : ∃ q, q = b.getD c 0 := ⟨_, rfl⟩
              have Hnx := Lib.hid (show dotB a B c (k + 1) = P + p * q by rw [dotB, heb, ← hP, ← hp, ← hq])
              rw [← hp] at e0 hda hpa
              rw [← hq] at f0 hdb hpb
              rw [← hP] at hWb hps
              have hpm : (pc (p * q).natAbs).length ≤ 200000000 := by rw [Int.natAbs_mul]; have := pc_mul p.natAbs q.natAbs; omega
              have hmu := Lib.hid (fun W (hW : Ext Z W) => mulW_w (hda.ext (hwZ.trans hW)) (hdb.ext (hwZ.trans hW)) (by omega) (by omega))
              have had := Lib.hid (fun W (hW : Ext Z W) (v : Value) (h : WhR W v (p * q)) => addW_w (hWb.ext hW) h (by omega) (by omega))
              generalize decide (p < 0) = bp at *
              generalize decide (q < 0) = bq at *
              have x0 := hOb.cell (j := 0) (by simp)
              have x1 := hOb.cell (j := 1) (by simp)
              simp only [List.getElem_cons_zero, List.getElem_cons_succ] at x0 x1
              have dZ : Ext Z Z.drew := (Ext.refl Z).drew
              have k0Z := hwZ.cell k0
              have e0Z := hwZ.cell e0
              have e1Z := hwZ.cell e1
              have kbZ := hwZ.cell kb
              have f0Z := hwZ.cell f0
              have f1Z := hwZ.cell f1
              clear hda hdb hb hbm hbl hw2 heb hpa hpb hps hP hp hq hpm hWb hOb hBk k0X k0 e0 e1 kb f0 f1
              go_wp2_with fail
              go_region_law (first
                | (go_simp; go_at_call 70; refine (hmu.out _ dZ).mono ?_; rintro e W1 ⟨v1, rfl, hv1, hF1⟩; have d1 := dZ.trans hF1; have HO1 := Lib.hid (OwnV.ext HOb.out d1); have y0 := OwnV.cell HO1.out (j := 0) (by simp); have y1 := OwnV.cell HO1.out (j := 1) (by simp); simp only [List.getElem_cons_zero, List.getElem_cons_succ] at y0 y1; have Hv1 := Lib.hid hv1; obtain ⟨b5, s5, n5, c5, rfl⟩ := hv1.shape; clear hv1)
                | (go_simp; go_at_call 69; refine (had.out _ d1 _ Hv1.out).mono ?_; rintro e W2 ⟨v2, rfl, hv2, hF2⟩; have d2 := d1.trans hF2; obtain ⟨b6, s6, n6, c6, rfl⟩ := hv2.shape; have HO2 := Lib.hid (OwnV.ext HOb.out d2); have q0 := OwnV.cell HO2.out (j := 0) (by simp); have q1 := OwnV.cell HO2.out (j := 1) (by simp); have q2 := OwnV.frozen HO2.out 0; have q3 := OwnV.frozen HO2.out 1; obtain ⟨hB8, hG8⟩ := BoxW.set HO2.out hv2; have HB8 := Lib.hid hB8; have hExY := Lib.hid (ext_trans_grown (hEZ.trans d2) hG8 (by omega)); clear hB8 hG8 hv2))
              all_goals
                rw [← Hnx.out] at HB8
                clear hmu had q0 q1 q2 q3 y0 y1 x0 x1 k0Z e0Z e1Z kbZ f0Z f1Z
                generalize hWN : ((W2.setCell ⟨g3, 0, none⟩ (.bool b6)).setCell ⟨g3, 1, none⟩ (.slice s6 n6 c6)) = WN at *
                clear hWN
                go_wp2_with fail
                go_roundw
                case rel => exact ⟨k + 1, by omega, by go_num, HB8, hExY.out⟩
                case measure => simp [intOf] <;> omega
            · have hkm : k = m := by omega
              have Hsn := Lib.hid (show prodR a B (c + 1) = prodR a B c ++ [dotB a B c k] by rw [prodR_snoc, Hm.out, hkm])
              obtain ⟨P, hP⟩ : ∃ P, P = dotB a B c k := ⟨_, rfl⟩
              rw [← hP] at Hsn hWb
              have Hrl := Lib.hid (prodR_length a B c)
              obtain ⟨dq, hdq, hdd⟩ := hWb
              have hbv : b4 = decide (P < 0) ∧ dq = .slice s4 n4 c4 := by
                injection hdq with hdq
                injection hdq with hdq
                injection hdq with h1 h2
                injection h1 with h1
                injection h2 with h2 _
                exact ⟨h1, h2.symm⟩
              obtain ⟨hbv, rfl⟩ := hbv
              have Hbv := Lib.hid hbv
              have Hdd := Lib.hid hdd
              have x0 := hOb.cell (j := 0) (by simp)
              have x1 := hOb.cell (j := 1) (by simp)
              simp only [List.getElem_cons_zero, List.getElem_cons_succ] at x0 x1
              have hR2 := Lib.hid (hR.out.ext hEZ)
              have hXs := hEY.size
              have hYs := hEZ.size
              clear hdq hdd hbv hP hOb hBk hkm
              go_wp2_with (at_builtin; refine app_whole rfl _ _ rfl rfl (hR2.out.ext ((Ext.refl _).alloc _)) rfl (b := Z.heap.size) (z := P) (by rw [← Hbv.out]; go_simp) (by go_simp) (Hdd.out.ext ((Ext.refl _).alloc _)) (by rw [Hrl.out]; omega) (by simp; omega) ?_; intro gg cap2 w8 hO8 hB8 hG8; rw [← Hsn.out] at hO8; rw [Hrl.out] at hO8 ⊢)
              have hE8 : Ext X w8 := Below.trans ((hEY.trans hEZ).alloc (.cells #[.bool b4, .slice s4 n4 c4] 66)) hB8
              have hO9 := Lib.hid hO8
              clear hG8 hB8 hO8 x0 x1
              go_wp2_with fail
              go_roundw
              case rel => exact ⟨c + 1, by omega, by go_num, hO9, hE8⟩
              case measure => simp [intOf] <;> omega
        · have hcn : c = n := by omega
          subst hcn
          have hci : ¬ (c : Int) < (c : Int) := by omega
          have Hsn := Lib.hid (show prodM (A.take (i + 1)) B c = prodM (A.take i) B c ++ [prodR a B c] by
            unfold prodM; rw [List.take_succ_eq_append_getElem hir, List.map_append, Ha.out]; rfl)
          have Hil := Lib.hid (show (prodM (A.take i) B c).length = i by unfold prodM; rw [List.length_map, List.length_take]; omega)
          have HU := Lib.hid hR.out.rwT
          obtain ⟨us, uc, hus⟩ := HU.out.shape (prodR_length a B c)
          subst hus
          have HO2 := Lib.hid (hO.out.ext hEY)
          have hE2 := hE.trans hEY
          have hsz := hE2.size
          clear hR
          go_wp2_with (at_builtin; refine app_mtx rfl _ _ rfl rfl (HO2.out.ext ((Ext.refl _).alloc _)) rfl (b := Y.heap.size) (rv := .slice us c uc) (r := prodR a B c) (by go_simp) (HU.out.ext ((Ext.refl _).alloc _)) (by rw [Hil.out]; omega) (by simp; omega) ?_; intro gg cap2 w8 hO8 hB8 hG8; rw [Hil.out] at hO8 ⊢; rw [← Hsn.out] at hO8)
          have hE8 : Ext w w8 := Below.trans (hE2.alloc (.cells #[.slice us c uc] 56)) hB8
          have hO9 := Lib.hid hO8
          clear hG8 hB8 hO8
          go_wp2_with fail
          go_roundw
          case rel => exact ⟨i + 1, by omega, by go_num, hO9, hE8⟩
          case measure => simp [intOf] <;> omega
    · have hie : A.take i = A := List.take_of_length_le (by rw [← Hl.out]; omega)
      rw [hie] at hO
      go_wp2_with fail
      go_ret
      exact ⟨_, rfl, hO.out, hE⟩
end Go.Proofs.YthmhmkkcjlgbjaaGreatDoor
/- hermite: Unimodular of a right matrix -/
namespace Go.Proofs.YthmhmkkcjlgbjaaGreatDoor
open Go.RowKit Go.Sort
theorem itoa_eq_one (z : Int) : (Lib.itoa z != [49]) = decide (z ≠ 1) := by
  have h1 : Lib.itoa 1 = [49] := by
    have := I_one
    unfold I S at this
    injection this with this
    have e := congrArg ByteArray.data this
    exact congrArg Array.toList e
  by_cases h : z = 1
  · subst h; rw [h1]; simp
  · rw [decide_eq_true h]
    simp only [bne_iff_ne, ne_eq]
    intro hc
    exact h (itoa_inj (hc.trans h1.symm))
/-- What Unimodular says. -/
def UnPost (w : World) (M : Mx) (e : Ending) (w' : World) : Prop :=
  ∃ b, e = .returned (.tuple #[.bool b, .int .i64 0]) ∧ (ncols M ≠ M.length → b = false) ∧ (ncols M = M.length → ∃ G, HnfOf (ncols M) M G ∧ (b = true ↔ (G.length = M.length ∧ ∀ i, i < M.length → eM G i i = 1))) ∧ Ext w w'
set_option maxRecDepth 100000 in
set_option maxHeartbeats 2000000 in
theorem Unimodular_ok {w : World} {v : Value} {S : Mx} (hS : MatR w v S) (hc2 : checkM S = 0) (hk : 13 * (bC S.length 30 (ncols S) + 2) < LIM) (hL : Laid w) :
    Calls Tryz.prog 23 #[v] w (UnPost w S) := by
  obtain ⟨hs12, ht12, hrectS, hentS⟩ := checkM_ok hc2
  have hck := Lib.hid (tableCheck_any hS)
  rw [hc2] at hck
  have HS := Lib.hid hS
  have HL := Lib.hid hL
  have HRS := Lib.hid hrectS
  have HeS := Lib.hid hentS
  have Hk := Lib.hid hk
  have hcol := Lib.hid (fun W (hW : Ext w W) => columns_any (HS.out.ext hW))
  have hli := Lib.hid (fun W (hW : Ext w W) => lines_any (n := ncols S) (HS.out.ext hW) HRS.out (by omega) (by omega) (fun r hr z hz => by have := HeS.out r hr z hz; unfold I64; omega) (HL.out.ext hW))
  obtain ⟨sf, _, _, cf, _, hvs, -⟩ := hS
  subst hvs
  clear hL hc2 hrectS hentS hk
  obtain ⟨m, hm⟩ : ∃ m, m = S.length := ⟨_, rfl⟩
  obtain ⟨c, hc⟩ : ∃ c, c = ncols S := ⟨_, rfl⟩
  have Hm := Lib.hid hm
  have Hc := Lib.hid hc
  rw [← hm] at hs12 hck
  rw [← hc] at ht12
  rw [← hm]
  clear hm hc
  by_cases hne : c = m
  · go_enter Tryz.func23, Tryz.ntmps23
    go_wp2_with fail
    refine hck.out.mono ?_
    rintro e w1 ⟨rfl, hE1⟩
    have hcol1 := Lib.hid (hcol.out w1 hE1)
    rw [← Hm.out, ← Hc.out] at hcol1
    clear hck hcol
    subst hne
    go_wp2_with fail
    refine hcol1.out.mono ?_
    rintro e w2 ⟨rfl, hE2⟩
    have hE12 := hE1.trans hE2
    have hli2 := Lib.hid (hli.out w2 hE12)
    rw [← Hm.out] at hli2
    clear hcol1 hli
    go_wp2_with fail
    refine hli2.out.mono ?_
    rintro e w3 ⟨v3, ad, rfl, hV, hE3⟩
    have hEw3 := hE12.trans hE3
    have hsh : ∃ ga cp, v3 = .slice ga c cp ∧ c ≤ cp ∧ (0 < c → ∃ g, ga = some ⟨g, 0, none⟩) := by
      have hr := hV.row
      rw [lines0_length, ← Hm.out] at hr
      rcases hr.2 with ⟨rfl, h0⟩ | ⟨g, cap, cur, rfl, hb, hg, hn, hm, hs, ht⟩
      · rw [h0]; exact ⟨none, 0, rfl, Nat.le_refl _, fun h => by omega⟩
      · exact ⟨_, cap, rfl, hn, fun _ => ⟨g, rfl⟩⟩
    obtain ⟨ga, cp, rfl, hcp, hgs⟩ := hsh
    have HV := Lib.hid hV
    clear hV hli2
    by_cases hn0 : c = 0
    · have HG := Lib.hid (show HnfOf (ncols S) S [] by rw [← Hc.out, hn0]; exact hnf_nil (M := S) (by rw [← hn0, Hc.out]; exact HRS.out))
      subst hn0
      go_wp2_with fail
      refine (echelon_zero rfl).mono ?_
      rintro e w5 ⟨rfl, rfl⟩
      go_wp2_with fail
      go_loopw [29] (fun idx wr => idx = .int .i64 0 ∧ wr = w5) (fun _ _ => 0)
      case atStart => exact ⟨rfl, rfl⟩
      case round =>
        obtain ⟨rfl, hwr⟩ := hrel
        subst hwr
        go_wp2_with fail
        go_ret2
        exact ⟨true, rfl, fun h => absurd (Hc.out.symm.trans Hm.out) h, fun _ => ⟨[], HG.out, ⟨fun _ => ⟨Hm.out, fun i hi => by rw [← Hm.out] at hi; omega⟩, fun _ => rfl⟩⟩, hEw3⟩
    · have hnp : 0 < c := by omega
      obtain ⟨g, rfl⟩ := hgs hnp
      have hlns : Lns w2.heap.size w3 g ad (lines0 S) := by
        have := HV.out
        have h2 : LnsV w2.heap.size w3 (slv g (lines0 S).length cp) ad (lines0 S) (ncols S) S.length := by rw [lines0_length, ← Hm.out]; exact this
        exact h2.lns (by rw [← Hc.out]; exact hnp)
      have hech := Lib.hid (echelon_walk (w0 := w2) (w := w3) (g := g) (cp := cp) (n := ncols S) (m := S.length) (L := S.length) (k := 30) (by simp) (by have := Hm.out; have := Hc.out; omega) (by have := Hm.out; have := Hc.out; omega) (by have := Hm.out; have := Hc.out; omega) (by have := Hm.out; have := Hc.out; omega) hlns (lines0_dim HRS.out) (lines0_all HeS.out) (by have := Hk.out; omega) (HL.out.ext hE12) hE3)
      rw [← Hm.out, ← Hc.out] at hech
      clear hlns hgs hn0 HV
      go_wp2_with fail
      refine hech.out.mono ?_
      rintro e w5 ⟨d, ps, ad', ls', rfl, hL5, hF5, hO5, hA5, hE5⟩
      rw [Hc.out] at hF5
      have HnF := form_of HRS.out hO5 hF5
      have hdl := hF5.le
      have hll : ls'.length = S.length := by rw [hO5.length]; simp
      have hGl := fRows_length hdl
      have hen := fun i (h : i < d) j => eM_fRows (d := d) (ls := ls') h j hdl
      have Hdim := Lib.hid ((lines0_dim HRS.out).ops hO5)
      have Hll := Lib.hid hll
      have hEw5 := hE12.trans hE5
      obtain ⟨G, hG⟩ : ∃ G, G = fRows d ls' := ⟨_, rfl⟩
      rw [← hG] at HnF hGl
      have Hen := Lib.hid (fun i (h : i < d) j => show eM G i j = en ls' i j by rw [hG]; exact hen i h j)
      have HG := Lib.hid HnF
      have HGl := Lib.hid hGl
      have hdS : d ≤ c := by have := Hm.out; omega
      have hcS : c = S.length := Hm.out
      have HcS := Lib.hid hcS
      have HcN := Lib.hid (show ncols S = S.length by rw [← Hc.out, ← Hm.out])
      clear hech hO5 hF5 hA5 hdl hll hen hG HnF hGl hcS
      by_cases hdF : d < c
      · have hdFi : (d : Int) < (c : Int) := by omega
        have hfin := Lib.hid (show UnPost w S (.returned (.tuple #[.bool false, .int .i64 0])) w5 from ⟨false, rfl, fun _ => rfl, fun _ => ⟨G, HG.out, ⟨(fun h => by cases h), (fun h => by have h1 := h.1; rw [HGl.out, ← HcS.out] at h1; omega)⟩⟩, hEw5⟩)
        go_wp2_with fail
        go_ret2
        exact hfin.out
      · have hdc : d = c := by omega
        subst hdc
        clear hdS hdF
        go_wp2_with fail
        go_loopw [29] (fun idx wr => ∃ i : Nat, i ≤ d ∧ idx = .int .i64 i ∧ Hid (∀ j, j < i → eM G j j = 1) ∧ Ext w5 wr) (fun idx _ => d - (intOf idx).toNat)
        case atStart => exact ⟨0, by omega, by go_num, Lib.hid (fun j h => by omega), Ext.refl _⟩
        case round =>
          obtain ⟨i, hi, rfl, hO, hE6⟩ := hrel
          generalize wr = X at *
          by_cases hlt : i < d
          · have hii : (i : Int) < (d : Int) := by omega
            obtain ⟨gx, cx, gy, cy, ead, c1, c2, cz, o1, o2, _, _, _⟩ := (hL5.ext hE6).ln (d := 0) (c := i) (i := i) (o := i * 2) Hdim.out (by rw [Hll.out, ← HcS.out]; omega) (by omega) (by rw [← Hc.out]; omega)
            have hen : cols i 0 ls' i = eM G i i := by
              rw [Hen.out i hlt]; unfold cols en; rw [Nat.zero_add]
            rw [hen] at cz
            rw [← Hc.out] at c1
            obtain ⟨z, hz⟩ : ∃ z, z = eM G i i := ⟨_, rfl⟩
            rw [← hz] at cz
            have Hz := Lib.hid hz
            have hitz := itoa_eq_one z
            have lgx := o1.lt.2
            have hE7 := hEw5.trans hE6
            clear hen hz o1 o2 ead
            by_cases hz1 : z = 1
            · rw [decide_eq_false (by simpa using hz1)] at hitz
              have hitz2 : (Lib.itoa z == [49]) = true := by simpa [bne] using hitz
              have HO2 := Lib.hid (show ∀ j, j < i + 1 → eM G j j = 1 from fun j hj => by
                by_cases e : j = i
                · subst e; rw [← Hz.out]; exact hz1
                · exact hO.out j (by omega))
              clear hz1
              go_wp2_with fail
              go_roundw
              case rel => exact ⟨i + 1, by omega, by go_num, HO2, hE6.alloc _⟩
              case measure => simp [intOf] <;> omega
            · rw [decide_eq_true hz1] at hitz
              have hitz2 : (Lib.itoa z == [49]) = false := by simpa [bne] using hitz
              have hfin := fun W (hW : Ext w W) => Lib.hid (show UnPost w S (.returned (.tuple #[.bool false, .int .i64 0])) W from ⟨false, rfl, fun _ => rfl, fun _ => ⟨G, HG.out, ⟨(fun h => by cases h), (fun h => absurd (by rw [Hz.out]; exact h.2 i (by rw [← HcS.out]; exact hlt)) hz1)⟩⟩, hW⟩)
              have Hfin := Lib.hid hfin
              clear hfin hz1
              go_wp2_with fail
              go_ret2
              exact (Hfin.out _ (hE7.alloc _)).out
          · have hie : i = d := by omega
            have hfin := Lib.hid (show UnPost w S (.returned (.tuple #[.bool true, .int .i64 0])) X from ⟨true, rfl, fun h => absurd HcN.out h, fun _ => ⟨G, HG.out, ⟨fun _ => ⟨by rw [HGl.out, ← HcS.out], fun j hj => hO.out j (by rw [← HcS.out] at hj; omega)⟩, fun _ => rfl⟩⟩, hEw5.trans hE6⟩)
            go_wp2_with fail
            go_ret2
            exact hfin.out
  · have hne2 : ((c : Int) != (m : Int)) = true := by simp [bne, beq_eq_false_iff_ne.2 (show (c : Int) ≠ (m : Int) by omega)]
    have hne1 : ((c : Int) == (m : Int)) = false := beq_eq_false_iff_ne.2 (by omega)
    have HcN := Lib.hid (show ncols S ≠ S.length by rw [← Hc.out, ← Hm.out]; exact hne)
    go_enter Tryz.func23, Tryz.ntmps23
    go_wp2_with fail
    refine hck.out.mono ?_
    rintro e w1 ⟨rfl, hE1⟩
    have hcol1 := Lib.hid (hcol.out w1 hE1)
    rw [← Hm.out, ← Hc.out] at hcol1
    clear hck hcol hne
    go_wp2_with fail
    refine hcol1.out.mono ?_
    rintro e w2 ⟨rfl, hE2⟩
    have hfin := Lib.hid (show UnPost w S (.returned (.tuple #[.bool false, .int .i64 0])) w2 from ⟨false, rfl, fun _ => rfl, fun h => absurd h HcN.out, hE1.trans hE2⟩)
    go_wp2_with fail
    go_ret2
    exact hfin.out
end Go.Proofs.YthmhmkkcjlgbjaaGreatDoor
