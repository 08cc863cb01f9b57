/- Part 29 of the proof of the claim: contracts of the functions that it reaches, and plain laws; no condition. -/
import Derived.Test.YtkjnjmihfonilaaGreatDoorV27
import Derived.Test.YtkjnjmihfonilaaGreatDoorV28
import Derived.Test.YtkjnjmihfonilaaGreatDoorV19
import Derived.Test.YtkjnjmihfonilaaGreatDoorV21
namespace Go.Proofs.YtkjnjmihfonilaaGreatDoor
open Go.RowKit Go.Sort
def LePost (w : World) (P : List Int) (M : Mx) (r : List Int) (most : Int) (e : Ending) (w' : World) : Prop :=
  Ext w w' ∧ ((bxE P.length M r most ≠ 0 ∧ e = .returned (.tuple #[.slice none 0 0, .bool false, .int .i64 (bxE P.length M r most)])) ∨ (bxE P.length M r most = 0 ∧ ∃ L, L = bxL M r P.length most.toNat ((2 * most.toNat + 1) ^ P.length) ∧ ((L.length = 0 ∧ e = .returned (.tuple #[.slice none 0 0, .bool false, .int .i64 0])) ∨ (0 < L.length ∧ ∃ s n c, e = .returned (.tuple #[.slice s n c, .bool true, .int .i64 0]) ∧ RowR w' (.slice s n c) (L.getD (bstI (hgtA P) L L.length) [])))))
theorem bxE_ok {np : Nat} {M : Mx} {r : List Int} {most : Int} (h : bxE np M r most = 0) : 0 ≤ most ∧ most ≤ 100 ∧ (2 * most.toNat + 1) ^ np ≤ 100000 := by
  unfold bxE at h
  split at h
  · split at h
    · cases h
    · rename_i h1
      split at h
      · cases h
      · omega
  · rename_i h1; exact absurd h h1
theorem cmpN_lt {a b : Nat} : (cmpN a b < 0) = (a < b) := by
  unfold cmpN
  split
  · rename_i h; simp [h]
  · rename_i h
    split <;> simp <;> omega
set_option maxRecDepth 100000 in
set_option maxHeartbeats 8000000 in
theorem gLeast_any {w : World} {P : List Int} {C M : Mx} {sp : Option Addr} {cp : Nat} {sc : Option Addr} {lc cc : Nat} {sm : Option Addr} {lm cm : Nat} {sx : Option Addr} {n cx : Nat} {r : List Int} {most : Int} (h : TmV w P C M M sp cp sc lc cc sm lm cm) (hx : RowR w (.slice sx n cx) r) (hL : Laid w) :
    Calls Tryz.prog 14 #[tmS P sp cp sc lc cc sm lm cm, .slice sx n cx, .int .i64 most] w (LePost w P M r most) := by
  have hbx := Lib.hid (fun W (hW : Ext w W) => gBox_any (most := most) (h.ext hW) (hx.ext hW) (hL.ext hW))
  have hX := (Ext.refl w).alloc (.cells #[.slice sp P.length cp, .slice sc lc cc, .slice sm lm cm] 34)
  have x0 : (w.alloc (.cells #[.slice sp P.length cp, .slice sc lc cc, .slice sm lm cm] 34)).cell? ⟨w.heap.size, 0, none⟩ = some (.slice sp P.length cp) := by go_simp
  have x1 : (w.alloc (.cells #[.slice sp P.length cp, .slice sc lc cc, .slice sm lm cm] 34)).cell? ⟨w.heap.size, 1, none⟩ = some (.slice sc lc cc) := by go_simp
  have x2 : (w.alloc (.cells #[.slice sp P.length cp, .slice sc lc cc, .slice sm lm cm] 34)).cell? ⟨w.heap.size, 2, none⟩ = some (.slice sm lm cm) := by go_simp
  have hpd := Lib.hid (fun W s c y (hW : Ext w W) (hy : RowR W (.slice s (List.length y) c) y) (hl : y.length = P.length) (hs : ∀ z ∈ y, -1000 ≤ z ∧ z ≤ 1000) => gproduct_ok (h.hP.ext hW) h.ok.p0 h.ok.p4 h.ok.pr h.ok.inc hy hl hs (hL.ext hW))
  have Hnd := Lib.hid (fun y (hl : List.length y = P.length) (hs : ∀ z ∈ y, -1000 ≤ z ∧ z ≤ 1000) => hgt_nd h.ok.pr hl hs y.length (Nat.le_refl _))
  have hp4 := h.ok.p4
  have Hp4 := Lib.hid hp4
  clear h hx hL hp4
  by_cases h0 : bxE P.length M r most = 0
  · have H0 := Lib.hid h0
    obtain ⟨hm0, hm1, hmT⟩ := bxE_ok h0
    obtain ⟨L, hLe⟩ : ∃ L, L = bxL M r P.length most.toNat ((2 * most.toNat + 1) ^ P.length) := ⟨_, rfl⟩
    have HLe := Lib.hid hLe
    have HLm := Lib.hid (show ∀ y ∈ L, y.length = P.length ∧ ∀ z ∈ y, -1000 ≤ z ∧ z ≤ 1000 from fun y hy => by
      rw [hLe] at hy
      obtain ⟨k1, k2, _⟩ := bxL_mem hy
      exact ⟨k1, fun z hz => by have := k2 z hz; omega⟩)
    have hLl : L.length ≤ 1000000 := by
      have := bxL_len M r P.length most.toNat ((2 * most.toNat + 1) ^ P.length)
      rw [← hLe] at this; omega
    clear h0 hLe hmT hm0 hm1
    go_enter Tryz.func14, Tryz.ntmps14
    go_wp2_with fail
    refine (hbx.out _ hX).mono ?_
    rintro e X ⟨hE1, (⟨k1, _⟩ | ⟨_, v, rfl, hv⟩)⟩
    · exact absurd H0.out k1
    · rw [← HLe.out] at hv
      have y0 := hE1.cell x0
      have e1 := hX.trans hE1
      obtain ⟨sl, gl, ol, cl, vs, rfl, hlc, hvl, hSl, hrl⟩ := hv.mat
      have HS := Lib.hid hSl
      have HV := Lib.hid hvl
      have HR := Lib.hid hrl
      clear hv hSl hvl hrl hbx hE1 x0 x1 x2
      go_wp2_with fail
      go_loopw [6, 7, 8, 10, 27] (fun xv fv ev hv idx wr => ∃ i : Nat, i ≤ L.length ∧ idx = .int .i64 i ∧ ev = .int .i64 0 ∧ Hid ((i = 0 ∧ xv = .slice none 0 0 ∧ fv = .bool false ∧ hv = .string ⟨#[]⟩) ∨ (0 < i ∧ fv = .bool true ∧ hv = D (hgtA P (L.getD (bstI (hgtA P) L i) [])) ∧ ∃ s n c, xv = .slice s n c ∧ RowR X (.slice s n c) (L.getD (bstI (hgtA P) L i) []))) ∧ Ext X wr) (fun _ _ _ _ idx _ => L.length - (intOf idx).toNat)
      case atStart => exact ⟨0, by omega, by go_num, rfl, Lib.hid (.inl ⟨rfl, rfl, rfl, rfl⟩), Ext.refl _⟩
      case round =>
        obtain ⟨i, hi', rfl, rfl, HK, hE⟩ := hrel
        generalize wr = Y at *
        have z0 := hE.cell y0
        by_cases hlt : i < L.length
        · have hii : (i : Int) < (L.length : Int) := by omega
          obtain rfl := HS.out.addr (by rw [HV.out]; omega)
          obtain ⟨sr, br, or, cr, hrow, hrc, hSr⟩ := MatR.row HS.out HV.out HR.out hlt
          have eY := e1.trans hE
          have hrY := hE.cell hrow
          have hm := HLm.out _ (List.getElem_mem hlt)
          have hpr := Lib.hid (hpd.out Y sr cr L[i] eY ⟨_, _, _, _, rfl, hrc, hSr.ext hE⟩ hm.1 hm.2)
          have HRi := Lib.hid (show RowR X (.slice sr L[i].length cr) L[i] from ⟨_, _, _, _, rfl, hrc, hSr⟩)
          have hgi : L.getD i [] = L[i] := getD_get hlt _
          have hndi : Lib.nDigits (hgtA P L[i]) ≤ 20000 := by
            refine Nat.le_trans (Hnd.out _ hm.1 hm.2) ?_
            have h2 := Hp4.out
            have h3 := hm.1
            omega
          obtain ⟨a, ha⟩ : ∃ a, a = hgtA P L[i] := ⟨_, rfl⟩
          rw [← ha] at hpr hndi
          have Ha := Lib.hid ha
          have Hgi := Lib.hid hgi
          generalize hnr : L[i].length = nr at *
          clear hnr ha hgi hm
          rcases HK.out with ⟨hi0, rfl, rfl, rfl⟩ | ⟨hi0, rfl, rfl, s, n2, c, rfl, hR⟩
          · subst hi0
            rw [Nat.add_zero] at hrY
            have Hb := Lib.hid (show bstI (hgtA P) L 1 = 0 by rw [bstI, if_pos (.inl rfl)])
            clear HK
            go_wp2_with fail
            refine hpr.out.mono ?_
            rintro e W ⟨rfl, hE2⟩
            go_wp2_with fail
            go_roundw
            case rel => exact ⟨1, by omega, by go_num, rfl, Lib.hid (.inr ⟨by omega, rfl, by rw [Hb.out, Hgi.out, Ha.out], _, _, _, rfl, by rw [Hb.out, Hgi.out]; exact HRi.out⟩), hE.trans hE2⟩
            case measure => simp [intOf] <;> omega
          · have hbl := bstI_lt (h := hgtA P) (L := L) hi0
            have hmb := HLm.out _ (List.getElem_mem (show bstI (hgtA P) L i < L.length by omega))
            have hndb : Lib.nDigits (hgtA P (L.getD (bstI (hgtA P) L i) [])) ≤ 20000 := by
              rw [getD_get (show bstI (hgtA P) L i < L.length by omega)]
              refine Nat.le_trans (Hnd.out _ hmb.1 hmb.2) ?_
              have h2 := Hp4.out
              have h3 := hmb.1
              omega
            have HRb := Lib.hid hR
            obtain ⟨b, hb⟩ : ∃ b, b = hgtA P (L.getD (bstI (hgtA P) L i) []) := ⟨_, rfl⟩
            rw [← hb] at hndb ⊢
            have Hb := Lib.hid hb
            have hcm := Lib.hid (fun W => dCompare_any (u := a) (v := b) (by unfold LIM; omega) (by unfold LIM; omega) W)
            have hcl : (cmpN a b < 0) = (a < b) := cmpN_lt
            obtain ⟨q, hq⟩ : ∃ q, q = cmpN a b := ⟨_, rfl⟩
            rw [← hq] at hcm hcl
            clear hq hb hmb hbl hR HK hndb hndi
            by_cases hab : a < b
            · have hqn : q < 0 := by rw [hcl]; exact hab
              have Hbs := Lib.hid (show bstI (hgtA P) L (i + 1) = i by
                rw [bstI, if_pos (.inr (by rw [Hgi.out, ← Ha.out, ← Hb.out]; exact hab))])
              clear hcl hab
              go_wp2_with fail
              refine hpr.out.mono ?_
              rintro e W ⟨rfl, hE2⟩
              go_wp2_with fail
              refine (hcm.out _).mono ?_
              rintro e W2 ⟨rfl, hE3⟩
              go_wp2_with fail
              go_roundw
              case rel => exact ⟨i + 1, by omega, by go_num, rfl, Lib.hid (.inr ⟨by omega, rfl, by rw [Hbs.out, Hgi.out, Ha.out], _, _, _, rfl, by rw [Hbs.out, Hgi.out]; exact HRi.out⟩), (hE.trans hE2).trans hE3⟩
              case measure => simp [intOf] <;> omega
            · have hqn : ¬ q < 0 := by rw [hcl]; exact hab
              have Hbs := Lib.hid (show bstI (hgtA P) L (i + 1) = bstI (hgtA P) L i by
                rw [bstI, if_neg (by rw [Hgi.out, ← Ha.out, ← Hb.out]; omega)])
              clear hcl hab
              go_wp2_with fail
              refine hpr.out.mono ?_
              rintro e W ⟨rfl, hE2⟩
              go_wp2_with fail
              refine (hcm.out _).mono ?_
              rintro e W2 ⟨rfl, hE3⟩
              go_wp2_with fail
              go_roundw
              case rel => exact ⟨i + 1, by omega, by go_num, rfl, Lib.hid (.inr ⟨by omega, rfl, by rw [Hbs.out, Hb.out], _, _, _, rfl, by rw [Hbs.out]; exact HRb.out⟩), (hE.trans hE2).trans hE3⟩
              case measure => simp [intOf] <;> omega
        · obtain rfl : i = L.length := by omega
          have eY := e1.trans hE
          rcases HK.out with ⟨hi0, rfl, rfl, rfl⟩ | ⟨hi0, rfl, rfl, s, n2, c, rfl, hR⟩
          · have Hres := Lib.hid (show LePost w P M r most (.returned (.tuple #[.slice none 0 0, .bool false, .int .i64 0])) Y from ⟨eY, .inr ⟨H0.out, L, HLe.out, .inl ⟨hi0, rfl⟩⟩⟩)
            clear HK hi0
            go_wp2_with fail
            go_ret3
            exact Hres.out
          · have Hres := Lib.hid (show LePost w P M r most (.returned (.tuple #[.slice s n2 c, .bool true, .int .i64 0])) Y from ⟨eY, .inr ⟨H0.out, L, HLe.out, .inr ⟨hi0, s, n2, c, rfl, hR.ext hE⟩⟩⟩)
            generalize D (hgtA P (L.getD (bstI (hgtA P) L L.length) [])) = dv at *
            clear HK hi0 hR
            go_wp2_with fail
            go_ret3
            exact Hres.out
  · obtain ⟨y, hy⟩ : ∃ y, y = bxE P.length M r most := ⟨_, rfl⟩
    have Hres := Lib.hid (show ∀ W, Ext w W → LePost w P M r most (.returned (.tuple #[.slice none 0 0, .bool false, .int .i64 y])) W from fun W hW => ⟨hW, .inl ⟨h0, by rw [hy]⟩⟩)
    have H0 := Lib.hid h0
    rw [← hy] at h0
    have Hy := Lib.hid hy
    have h2 : (y == 0) = false := beq_eq_false_iff_ne.2 h0
    have h3 : (y != 0) = true := by simp [bne, h2]
    clear hy h0 hpd Hnd
    go_enter Tryz.func14, Tryz.ntmps14
    go_wp2_with fail
    refine (hbx.out _ hX).mono ?_
    rintro e X ⟨hE1, (⟨_, rfl⟩ | ⟨k1, _⟩)⟩
    · rw [← Hy.out]
      have e1 := hX.trans hE1
      go_wp2_with fail
      go_ret3
      exact Hres.out _ e1
    · exact absurd k1 H0.out
end Go.Proofs.YtkjnjmihfonilaaGreatDoor
namespace Go.Proofs.YtkjnjmihfonilaaGreatDoor
open Go.RowKit Go.Sort
theorem redX_bits {F : Mx} {x : List Int} {E : Nat} (hP : ∀ r ∈ F, pv r < r.length) (hF : ∀ r ∈ F, ∀ z ∈ r, z.natAbs < 2 ^ E) (hx : ∀ z ∈ x, z.natAbs < 2 ^ E) : ∀ i, i ≤ F.length → ∀ z ∈ redX (F.take i) x, z.natAbs < 2 ^ (E + (E + 1) * i)
  | 0, _ => by simpa [redX] using hx
  | i + 1, h => by
    have ih := redX_bits hP hF hx i (by omega)
    have hpi := hP _ (List.getElem_mem (show i < F.length by omega))
    rw [redX_take (by omega), getD_get (show i < F.length by omega)]
    have p0 : 0 < 2 ^ (E + (E + 1) * i) := Nat.pow_pos (by omega)
    have hq := stepQ_abs (pv_ne hpi) p0 ih
    generalize stepQ F[i] (redX (F.take i) x) = q at *
    refine subK_all q (Q := fun z => z.natAbs < 2 ^ (E + (E + 1) * i)) (R := fun z => z.natAbs < 2 ^ E) ?_ ?_ _ _ ih (fun z hz => hF _ (List.getElem_mem (by omega)) z hz)
    · intro z hz; exact Nat.lt_of_lt_of_le hz (Nat.pow_le_pow_right (by omega) (by have : (E + 1) * (i + 1) = (E + 1) * i + (E + 1) := Nat.mul_succ _ _; omega))
    · intro y z hy hz
      have h1 : (q * z).natAbs ≤ 2 ^ (E + (E + 1) * i) * 2 ^ E := by
        rw [Int.natAbs_mul]; exact Nat.mul_le_mul (Nat.le_of_lt hq) (Nat.le_of_lt hz)
      have e : 2 ^ (E + (E + 1) * (i + 1)) = 2 ^ (E + (E + 1) * i) * 2 ^ E * 2 := by
        rw [show E + (E + 1) * (i + 1) = (E + (E + 1) * i) + E + 1 by have : (E + 1) * (i + 1) = (E + 1) * i + (E + 1) := Nat.mul_succ _ _; omega, Nat.pow_succ, Nat.pow_add]
      have h2 : 2 ^ (E + (E + 1) * i) ≤ 2 ^ (E + (E + 1) * i) * 2 ^ E := Nat.le_mul_of_pos_right _ (Nat.pow_pos (by omega))
      rw [e]
      have hy' : y.natAbs < 2 ^ (E + (E + 1) * i) := hy
      omega
set_option maxRecDepth 100000 in
theorem sclone_any {w : World} {vx : Value} {x : List Int} (hx : IntsR w vx x) (hn : 0 < x.length) (hl : x.length ≤ 1000000) :
    Calls Tryz.prog 151 #[vx] w fun e w' => ∃ g cap, e = .returned (slv g x.length cap) ∧ OwnV 80 w.heap.size w' g cap (ss x) ∧ Ext w w' := by
  obtain ⟨sa, gb, go, cp, rfl, hcp, hS⟩ := hx
  obtain rfl := hS.addr (by rw [ss_length]; exact hn)
  obtain ⟨s0, hs, hy0, hy1, hy2⟩ := info_parts Tryz.infoStr
  have HNews := Lib.hid (show ∀ (j : Nat) (u : Value), (ss x)[j]? = some u → (w.alloc (.cells #[] 80)).cell? ((⟨gb, go, none⟩ : Addr).add j) = some u from fun j u hj => by
    have h2 := ((Ext.refl w).alloc (.cells #[] 80)).cell (hS.cell j u hj)
    simpa [Addr.add_lit] using h2)
  have HOne := Lib.hid (show ∀ u ∈ ss x, u.oneCell' = true from fun u hu => by
    obtain ⟨y, _, rfl⟩ := List.mem_map.1 hu
    rfl)
  have hO : OwnV 80 w.heap.size (w.alloc (.cells #[] 80)) w.heap.size 0 [] := OwnV.of (Nat.le_refl _) (heap_new _ _) (Nat.le_refl _) (Nat.zero_le _) rfl rfl
  have HO := Lib.hid hO
  have hE := (Ext.refl w).alloc (.cells #[] 80)
  have knil := fun (w : World) (a : Option Addr) (n c : Nat) => Lib.run_eql_slice_nil (P := Tryz.prog) w 88 80 a n c 0 0 Tryz.underlying88
  clear hO hS
  go_enter Tryz.func151, Tryz.ntmps151
  go_wp2_with (at_builtin; refine wpList_append_lies _ rfl _ _ 88 rfl w.heap.size 80 s0 _ 1 16 Tryz.underlying88 hs hy0 hy1 hy2 rfl (by omega) (slv w.heap.size 0 0) 0 [] rfl HO.out ⟨gb, go, none⟩ x.length cp (ss x) rfl (by rw [ss_length]; omega) HNews.out HOne.out hn (by unfold maxLen; omega) (by omega) (by simp) (w.heap.size + 1) (by simp) ?_; intro gg cap6 w6 hown6 hgrow6 hat6 hlt6)
  have hE6 : Ext w w6 := Ext.mk' (Below.grown hE hgrow6 hE.size (fun q hq => (World.ownsRow.lt HO.out q hq).1))
  have HR := Lib.hid (show OwnV 80 w.heap.size w6 gg cap6 (ss x) by
    unfold OwnV; rw [ss_length]; simpa using hown6)
  clear hown6 hgrow6 hat6 hlt6
  go_wp2_with fail
  go_ret
  exact ⟨gg, cap6, by simp, HR.out, hE6⟩
set_option maxRecDepth 100000 in
set_option maxHeartbeats 1000000 in
theorem reduced_any {w : World} {vF vx : Value} {F : Mx} {x : List Int} {E m : Nat} (hF : GridR w vF F) (hRt : Rect m F) (hx : IntsR w vx x) (hxl : x.length = m) (hm : 0 < m) (hm2 : m ≤ 1000000) (hl : F.length ≤ 1000000) (hP : ∀ r ∈ F, pv r < m)
    (hbF : ∀ r ∈ F, ∀ z ∈ r, z.natAbs < 2 ^ E) (hbx : ∀ z ∈ x, z.natAbs < 2 ^ E) (hE : 2 * (E + (E + 1) * F.length) + 2 < LIM) (hL : Laid w) :
    Calls Tryz.prog 110 #[vF, vx] w fun e w' => ∃ g cap, e = .returned (slv g m cap) ∧ OwnV 80 w.heap.size w' g cap (ss (redX F x)) ∧ Ext w w' := by
  have hcl := Lib.hid (sclone_any hx (by omega) (by omega))
  rw [hxl] at hcl
  obtain ⟨sa, gb, go, cap, vs, rfl, hcap, hvl, hS, hr⟩ := hF
  have HS := Lib.hid hS
  have HV := Lib.hid hvl
  have HR := Lib.hid hr
  have HRt := Lib.hid hRt
  have HP := Lib.hid hP
  have HbF := Lib.hid hbF
  have Hbits := Lib.hid (redX_bits (fun r hr => by rw [hRt r hr]; exact hP r hr) hbF hbx)
  have HE := Lib.hid hE
  have HL := Lib.hid hL
  have Hxl := Lib.hid hxl
  clear hS hvl hr hRt hP hbF hbx hE hL hx hxl
  obtain ⟨E2, hE2⟩ : ∃ E2, E2 = E + (E + 1) * F.length := ⟨_, rfl⟩
  have HE2 := Lib.hid hE2
  clear hE2
  go_enter Tryz.func110, Tryz.ntmps110
  go_wp2_with fail
  refine hcl.out.mono ?_
  rintro e w1 ⟨gx, cx, rfl, hX1, hE1⟩
  have hgl := hX1.lt
  go_wp2_with fail
  go_loopw [15] (fun idx wr => ∃ i : Nat, i ≤ F.length ∧ idx = .int .i64 i ∧ Hid (OwnV 80 w.heap.size wr gx cx (ss (redX (F.take i) x))) ∧ Ext w wr) (fun idx _ => F.length - (intOf idx).toNat)
  case atStart => exact ⟨0, by omega, by go_num, Lib.hid hX1, hE1⟩
  case round =>
    obtain ⟨i, hi', rfl, hX, hEX⟩ := hrel
    generalize wr = X at *
    by_cases hlt : i < F.length
    · have hii : (i : Int) < (F.length : Int) := by omega
      obtain rfl := HS.out.addr (by rw [HV.out]; omega)
      obtain ⟨sr, br, or, cr, hrow, hrc, hSr⟩ := GridR.row HS.out HV.out HR.out hlt
      have hrl : F[i].length = m := HRt.out _ (List.getElem_mem hlt)
      have hpm := HP.out _ (List.getElem_mem hlt)
      have hbr := HbF.out _ (List.getElem_mem hlt)
      have hstep := redX_take hlt x
      rw [getD_get hlt] at hstep
      obtain ⟨r, hr⟩ : ∃ r, r = F[i] := ⟨_, rfl⟩
      rw [← hr] at hrow hrc hSr hrl hpm hbr hstep
      rw [hrl] at hrow hrc
      have hrow' := hEX.cell hrow
      obtain rfl := hSr.addr (by simp; omega)
      have hld := Lib.hid (slead_any (w := X) (cap := cr) (hSr.ext hEX) (by omega))
      rw [hrl] at hld
      have hyb := Hbits.out i hi'
      have hyl : (redX (F.take i) x).length = m := by rw [redX_length, Hxl.out]
      obtain ⟨y, hy⟩ : ∃ y, y = redX (F.take i) x := ⟨_, rfl⟩
      rw [← hy] at hX hyb hyl hstep
      have hle : E + (E + 1) * i ≤ E2 := by rw [HE2.out]; have := Nat.mul_le_mul_left (E + 1) hi'; omega
      have hyb2 : ∀ z ∈ y, z.natAbs < 2 ^ E2 := fun z hz => Nat.lt_of_lt_of_le (hyb z hz) (Nat.pow_le_pow_right (by omega) hle)
      have hrb2 : ∀ z ∈ r, z.natAbs < 2 ^ E2 := fun z hz => Nat.lt_of_lt_of_le (hbr z hz) (Nat.pow_le_pow_right (by omega) (by rw [HE2.out]; omega))
      have hrp : r.getD (pv r) 0 ≠ 0 := pv_ne (by omega)
      have hq2 : (stepQ r y).natAbs < 2 ^ E2 := stepQ_abs hrp (Nat.pow_pos (by omega)) hyb2
      have hEL : 2 * E2 + 2 < LIM := by rw [HE2.out]; exact HE.out
      have cq := hX.out.cell (j := pv r) (by rw [ss_length, hyl]; exact hpm)
      have hSrX := hSr.ext hEX
      have cr0 := hSrX.cell (pv r) (I (r.getD (pv r) 0)) (by
        have h6 : pv r < (ss r).length := by rw [ss_length, hrl]; exact hpm
        rw [List.getElem?_eq_getElem h6, ss_at (by omega) h6])
      rw [ss_at (by omega)] at cq
      have hdy : nd (y.getD (pv r) 0) < LIM := by
        rw [getD_get (by omega)]
        have := nd_lt2 (hyb2 _ (List.getElem_mem (by omega : pv r < y.length))); omega
      have hdr : nd (r.getD (pv r) 0) < LIM := by
        rw [getD_get (by omega)]
        have := nd_lt2 (hrb2 _ (List.getElem_mem (by omega : pv r < r.length))); omega
      have Hdm := Lib.hid (fun W (hW : Ext w W) => DivMod_any (a := y.getD (pv r) 0) (b := r.getD (pv r) 0) (w := W) hdy hdr hrp (HL.out.ext hW))
      have hne : br ≠ gx := by
        have h7 := hSr.lt (by rw [ss_length]; omega)
        omega
      have Htk := Lib.hid (fun W (hW : Ext X W) => by
        have h8 := stake_any (w0 := w) (w := W) (ga := gx) (ca := cx) (k := stepQ r y) (cb := cr) (hX.out.ext hW) (hSrX.ext hW) hne (by rw [hrl, hyl]) (by omega) (less_big hyb2 hrb2 hq2 hEL) HL.out (hEX.trans hW)
        rw [hyl] at h8
        exact h8)
      obtain ⟨p, hp⟩ : ∃ p, p = pv r := ⟨_, rfl⟩
      obtain ⟨a, ha⟩ : ∃ a, a = y.getD p 0 := ⟨_, rfl⟩
      obtain ⟨b, hb⟩ : ∃ b, b = r.getD p 0 := ⟨_, rfl⟩
      have hqe : stepQ r y = a.fdiv b := by rw [ha, hb, hp]; rfl
      rw [← hp] at cq cr0 hpm hld Hdm
      rw [← ha] at cq Hdm
      rw [← hb] at cr0 Hdm
      rw [hqe] at Htk hstep
      have Hstep := Lib.hid hstep
      have hpmI : (p : Int) < (m : Int) := by omega
      have HX := hX
      clear hr hrow hrc hSr hrl hbr hyb hyl hy hle hyb2 hrb2 hrp hq2 hEL hSrX hdy hdr hne hp ha hb hqe hstep hX
      go_wp2_with fail
      refine hld.out.mono ?_
      rintro e W1 ⟨rfl, hW1⟩
      have k1 := cell_regrown (hW1.cell cq)
      have k2 := cell_regrown (hW1.cell cr0)
      have bD := Lib.hid (quietC (w := W1) (fun W h => Hdm.out W (hEX.trans (hW1.trans h))))
      clear hld
      go_wp2_with fail
      refine wp_region_quiet_below (by kernel_rfl) (by kernel_rfl) ?_
      repeat (quiet_step (exact bD.out _ _))
      refine wpQuiet_nil ?_
      intro _ hw'
      obtain ⟨⟨dq, osq⟩, hw''⟩ := hw'
      subst hw''
      have hE6 := hW1.trans (ext_regrown W1 dq osq)
      clear bD k1 k2 Hdm
      generalize hW6 : grow (redrawn _ _) _ = W6 at *
      clear hW6
      go_wp2_with fail
      refine (Htk.out _ hE6).mono ?_
      rintro e W7 ⟨rfl, hX7, hG7⟩
      rw [← Hstep.out] at hX7
      have hE7 := ext_trans_grown (hEX.trans hE6) hG7 hgl.1
      have HX7 := Lib.hid hX7
      clear hX7 hG7 Htk
      go_wp2_with fail
      go_roundw
      case rel => exact ⟨i + 1, by omega, by go_num, HX7, hE7⟩
      case measure => simp [intOf] <;> omega
    · have hie : i = F.length := by omega
      subst hie
      go_wp2_with fail
      go_ret
      have h1 := hX.out
      rw [List.take_length] at h1
      exact ⟨gx, cx, rfl, h1, hEX⟩
end Go.Proofs.YtkjnjmihfonilaaGreatDoor
namespace Go.Proofs.YtkjnjmihfonilaaGreatDoor
open Go.RowKit Go.Sort
def sizeE (M : Mx) (b : List Int) : Int := if checkM M = 0 then if chkRow b = 0 then if 0 < M.length ∧ b.length ≠ ncols M then 5 else 0 else chkRow b else checkM M
theorem sizeE_ok {M : Mx} {b : List Int} (h : sizeE M b = 0) : checkM M = 0 ∧ chkRow b = 0 ∧ (0 < M.length → b.length = ncols M) := by
  unfold sizeE at h
  split at h
  · split at h
    · split at h
      · cases h
      · rename_i h1 h2 h3
        exact ⟨h1, h2, fun h5 => Classical.byContradiction fun h6 => h3 ⟨h5, h6⟩⟩
    · exact absurd h ‹_›
  · exact absurd h ‹_›
set_option maxRecDepth 100000 in
theorem sized_any {w : World} {vm vb : Value} {M : Mx} {b : List Int} (hM : MatR w vm M) (hb : RowR w vb b) :
    Calls Tryz.prog 105 #[vm, vb] w fun e w' => e = .returned (.int .i64 (sizeE M b)) ∧ Ext w w' := by
  have hck := Lib.hid (tableCheck_any hM)
  have hrk := Lib.hid (fun W (hW : Ext w W) => rowCheck_any (hb.ext hW))
  obtain ⟨sr, br, or, cr, hbv, hbc, hSb⟩ := hb
  obtain ⟨sa, gb, go, cap, vs, hmv, hcap, hvl, hS, hr⟩ := hM
  by_cases h0 : checkM M = 0
  · rw [h0] at hck
    by_cases h1 : chkRow b = 0
    · rw [h1] at hrk
      by_cases hM0 : M.length = 0
      · have he : sizeE M b = 0 := by unfold sizeE; rw [if_pos h0, if_pos h1, if_neg (by omega)]
        rw [he]
        subst hmv hbv
        rw [hM0] at hck ⊢
        clear hS hvl hr hSb h0 h1 he hM0
        go_enter Tryz.func105, Tryz.ntmps105
        go_wp2_with fail
        refine hck.out.mono ?_
        rintro e w1 ⟨rfl, hE1⟩
        go_wp2_with fail
        refine (hrk.out _ hE1).mono ?_
        rintro e w2 ⟨rfl, hE2⟩
        go_wp2_with fail
        go_ret
        exact ⟨rfl, hE1.trans hE2⟩
      · have hMp : (0 : Int) < (M.length : Int) := by omega
        obtain ⟨s0, c0, rfl, hrow⟩ := ncols_row hS hvl hr (by omega)
        subst hmv hbv
        by_cases hl : b.length = ncols M
        · have he : sizeE M b = 0 := by unfold sizeE; rw [if_pos h0, if_pos h1, if_neg (by omega)]
          rw [he]
          rw [← hl] at hrow
          clear hS hvl hr hSb h0 h1 he hM0 hl
          go_enter Tryz.func105, Tryz.ntmps105
          go_wp2_with fail
          refine hck.out.mono ?_
          rintro e w1 ⟨rfl, hE1⟩
          go_wp2_with fail
          refine (hrk.out _ hE1).mono ?_
          rintro e w2 ⟨rfl, hE2⟩
          have hrow2 := (hE1.trans hE2).cell hrow
          go_wp2_with fail
          go_ret
          exact ⟨rfl, hE1.trans hE2⟩
        · have he : sizeE M b = 5 := by unfold sizeE; rw [if_pos h0, if_pos h1, if_pos ⟨by omega, hl⟩]
          have hlb : ((b.length : Int) == (ncols M : Int)) = false := beq_eq_false_iff_ne.2 (by omega)
          have hlb2 : ((b.length : Int) != (ncols M : Int)) = true := by simp [bne, hlb]
          have hlI : ¬ (b.length : Int) = (ncols M : Int) := by omega
          rw [he]
          clear hS hvl hr hSb h0 h1 he hM0
          go_enter Tryz.func105, Tryz.ntmps105
          go_wp2_with fail
          refine hck.out.mono ?_
          rintro e w1 ⟨rfl, hE1⟩
          go_wp2_with fail
          refine (hrk.out _ hE1).mono ?_
          rintro e w2 ⟨rfl, hE2⟩
          have hrow2 := (hE1.trans hE2).cell hrow
          go_wp2_with fail
          go_ret
          exact ⟨rfl, hE1.trans hE2⟩
    · obtain ⟨q, hq⟩ : ∃ q, q = chkRow b := ⟨_, rfl⟩
      have he : sizeE M b = q := by unfold sizeE; rw [if_pos h0, if_neg h1, hq]
      have hqb : (q == 0) = false := beq_eq_false_iff_ne.2 (by rw [hq]; exact h1)
      have hqb2 : (q != 0) = true := by simp [bne, hqb]
      rw [he]
      rw [← hq] at hrk
      subst hmv hbv
      clear hS hvl hr hSb h0 h1 he hq
      go_enter Tryz.func105, Tryz.ntmps105
      go_wp2_with fail
      refine hck.out.mono ?_
      rintro e w1 ⟨rfl, hE1⟩
      go_wp2_with fail
      refine (hrk.out _ hE1).mono ?_
      rintro e w2 ⟨rfl, hE2⟩
      go_wp2_with fail
      go_ret
      exact ⟨rfl, hE1.trans hE2⟩
  · obtain ⟨q, hq⟩ : ∃ q, q = checkM M := ⟨_, rfl⟩
    have he : sizeE M b = q := by unfold sizeE; rw [if_neg h0, hq]
    have hqb : (q == 0) = false := beq_eq_false_iff_ne.2 (by rw [hq]; exact h0)
    have hqb2 : (q != 0) = true := by simp [bne, hqb]
    rw [he]
    rw [← hq] at hck
    subst hmv hbv
    clear hS hvl hr hSb h0 he hq
    go_enter Tryz.func105, Tryz.ntmps105
    go_wp2_with fail
    refine hck.out.mono ?_
    rintro e w1 ⟨rfl, hE1⟩
    go_wp2_with fail
    go_ret
    exact ⟨rfl, hE1⟩
end Go.Proofs.YtkjnjmihfonilaaGreatDoor
