/- Part 4, beside the shared parts, of the proof of the claim: contracts and plain laws; no condition. -/
import Derived.Test.YtkjnjmihfonilaaGreatDoorV01
import Derived.Test.YtkjnjmihfonilaaGreatDoorV02
import Derived.Test.YtkjnjmihfonilaaGreatDoorV03
import Derived.Test.YtkjnjmihfonilaaGreatDoorV04
import Derived.Test.YtkjnjmihfonilaaGreatDoorV05
import Derived.Test.YtkjnjmihfonilaaGreatDoorV06
import Derived.Test.YtkjnjmihfonilaaGreatDoorV07
import Derived.Test.YtkjnjmihfonilaaGreatDoorV08
import Derived.Test.YtkjnjmihfonilaaGreatDoorV09
import Derived.Test.YtkjnjmihfonilaaGreatDoorV10
import Derived.Test.YtkjnjmihfonilaaGreatDoorV11
import Derived.Test.YtkjnjmihfonilaaGreatDoorV12
import Derived.Test.YtkjnjmihfonilaaGreatDoorV13
import Derived.Test.YtkjnjmihfonilaaGreatDoorV14
import Derived.Test.YtkjnjmihfonilaaGreatDoorV15
import Derived.Test.YtkjnjmihfonilaaGreatDoorV16
import Derived.Test.YtkjnjmihfonilaaGreatDoorV17
import Derived.Test.YtkjnjmihfonilaaGreatDoorV18
import Derived.Test.YtkjnjmihfonilaaGreatDoorV19
import Derived.Test.YtkjnjmihfonilaaGreatDoorV20
import Derived.Test.YtkjnjmihfonilaaGreatDoorV21
import Derived.Test.YtkjnjmihfonilaaGreatDoorV22
import Derived.Test.YtkjnjmihfonilaaGreatDoorV23
import Derived.Test.YtkjnjmihfonilaaGreatDoorV24
import Derived.Test.YtkjnjmihfonilaaGreatDoorV25
import Derived.Test.YtkjnjmihfonilaaGreatDoorV26
import Derived.Test.YtkjnjmihfonilaaGreatDoorV27
import Derived.Test.YtkjnjmihfonilaaGreatDoorV28
import Derived.Test.YtkjnjmihfonilaaGreatDoorV29
import Derived.Test.YtkjnjmihfonilaaGreatDoorV30
import Derived.Test.YtkjnjmihfonilaaGreatDoorV31
import Derived.Test.YtkjnjmihfonilaaGreatDoorV32
import Derived.Test.YtkjnjmihfonilaaGreatDoorV33
import Derived.Test.YtkjnjmihfonilaaGreatDoorW01
import Derived.Test.YtkjnjmihfonilaaGreatDoorW02
import Derived.Test.YtkjnjmihfonilaaGreatDoorW03
import Derived.Test.YtkjnjmihfonilaaGreatDoorCards
import Derived.Test.YtkjnjmihfonilaaGreatDoorTie
import Derived.SevenTiedAt
namespace Go.Proofs.YtkjnjmihfonilaaGreatDoor
open Go.RowKit Go.Sort
def prtL (z : List Int) (S : Mx) (n i c : Nat) : List Int := (List.range n).map fun k => sumZ (fun j => z.getD j 0 * (S.getD j []).getD k 0) (if k < c then i + 1 else i)
@[simp] theorem prtL_length (z : List Int) (S : Mx) (n i c : Nat) : (prtL z S n i c).length = n := by simp [prtL]
theorem prtL_getD (z : List Int) (S : Mx) {n k : Nat} (i c : Nat) (hk : k < n) : (prtL z S n i c).getD k 0 = sumZ (fun j => z.getD j 0 * (S.getD j []).getD k 0) (if k < c then i + 1 else i) := by
  rw [getD_get (by simpa using hk)]; simp [prtL]
theorem prtL_zero (z : List Int) (S : Mx) (n : Nat) : prtL z S n 0 0 = List.replicate n 0 := by
  refine List.ext_getElem (by simp) fun k h1 h2 => ?_
  simp [prtL, sumZ]
theorem prtL_all (z : List Int) (S : Mx) (n i : Nat) : prtL z S n i n = prtL z S n (i + 1) 0 := by
  refine List.ext_getElem (by simp) fun k h1 h2 => ?_
  have hk : k < n := by simpa using h1
  simp [prtL, hk]
theorem prtL_step (z : List Int) (S : Mx) {n c : Nat} (i : Nat) (hc : c < n) : prtL z S n i (c + 1) = (prtL z S n i c).set c ((prtL z S n i c).getD c 0 + z.getD i 0 * (S.getD i []).getD c 0) := by
  rw [prtL_getD z S i c hc, if_neg (by omega)]
  refine List.ext_getElem (by simp) fun k h1 h2 => ?_
  rw [List.getElem_set]
  by_cases e : c = k
  · subst e
    rw [if_pos rfl]
    simp only [prtL, List.getElem_map, List.getElem_range]
    rw [if_pos (by omega)]; rfl
  · rw [if_neg e]
    simp only [prtL, List.getElem_map, List.getElem_range]
    by_cases h3 : k < c
    · rw [if_pos h3, if_pos (by omega)]
    · rw [if_neg h3, if_neg (by omega)]
theorem prtL_bd {z : List Int} {S : Mx} {n i c : Nat} (hc : c < n) (hz : ∀ j, (z.getD j 0).natAbs ≤ 1000000000) (hS : ∀ j k, ((S.getD j []).getD k 0).natAbs ≤ 1000000000) : ((prtL z S n i c).getD c 0).natAbs ≤ i * 1000000000000000000 := by
  rw [prtL_getD z S i c hc, if_neg (by omega)]
  refine tmp_b (fun j => ?_) i
  rw [Int.natAbs_mul]
  have := Nat.mul_le_mul (hz j) (hS j c)
  omega
theorem tp2_sym {w w' : World} {np : Nat} {M : Mx} {x : List Int} {e : Ending} (h : TpPost w np M x e w') (hl : x.length = np) :
    Ext w w' ∧ ∃ s m c k r, e = .returned (.tuple #[.slice s m c, .int .i64 k]) ∧ RowR w' (.slice s m c) r ∧ ((k = 0 ∧ r = tmpL M x) ∨ k = 4) := by
  obtain ⟨hE, (⟨_, hs, v, rfl, hv⟩ | ⟨_, hs, rfl⟩ | ⟨q, rfl⟩)⟩ := h
  · have hr := hv.row
    obtain ⟨a, _, _, c, e, _⟩ := id hr
    subst e
    exact ⟨hE, _, _, _, 0, _, rfl, hr, .inl ⟨rfl, rfl⟩⟩
  · exact ⟨hE, _, _, _, 4, [], rfl, nilR _, .inr rfl⟩
  · refine ⟨hE, _, _, _, _, [], rfl, nilR _, .inr ?_⟩
    unfold bgE at q ⊢
    by_cases h0 : chkRow x = 0
    · rw [if_pos h0, if_pos hl] at q; exact absurd rfl q
    · rw [if_neg h0]
      unfold chkRow at h0 ⊢
      split
      · rfl
      · rename_i h1
        rw [if_neg h1] at h0
        split
        · rfl
        · rename_i h2; rw [if_neg h2] at h0; exact absurd rfl h0
set_option maxRecDepth 100000 in
set_option maxHeartbeats 8000000 in
theorem lws_walk {w : World} {b : Int} {rv : Value} {Z : List (List Int)} {vals : Bool} {z0 z1 z2 z3 : Int} (hb : 0 ≤ b ∧ b ≤ 255) (hR : RowsA w rv Z) (b0 : -128 ≤ z0 ∧ z0 ≤ 127) (b1 : -128 ≤ z1 ∧ z1 ≤ 127) (b2 : -128 ≤ z2 ∧ z2 ≤ 127) (b3 : -128 ≤ z3 ∧ z3 ≤ 127) (hL : Laid w) :
    Calls Tryz.prog 5 #[.agg #[.int .u8 b, rv, .bool vals], .agg #[.int .i8 z0, .int .i8 z1, .int .i8 z2, .int .i8 z3]] w fun e w' => e = .returned (.bool true) ∧ Ext w w' := by
  have hkn := Lib.hid (fun W (hW : Ext w W) => known20_any (hL.ext hW))
  have hft := Lib.hid (fun W (hW : Ext w W) => fits18_any (b := b) (vals := vals) (hR.ext hW))
  have hmk := Lib.hid (fun W (hW : Ext w W) (h3 : Z.length ≤ 3) => make18_any (vals := vals) hb (hR.ext hW) h3 (hL.ext hW))
  have HL := Lib.hid hL
  have HAr := Lib.hid (show Ar4 #[.int .i8 z0, .int .i8 z1, .int .i8 z2, .int .i8 z3] [z0, z1, z2, z3] from ⟨rfl, rfl, fun j hj => by
    match j, hj with
    | 0, _ => rfl
    | 1, _ => rfl
    | 2, _ => rfl
    | 3, _ => rfl, fun z hz => by
    simp only [List.mem_cons, List.not_mem_nil, or_false] at hz
    rcases hz with rfl | rfl | rfl | rfl <;> assumption⟩)
  obtain ⟨i0, hi, hy0, hy1, hy2⟩ := info_parts Tryz.infoInt
  obtain ⟨sa, gb, go, cap, rfl, k1, k2, k3, k4⟩ := id hR
  clear k1 k2 k3 k4 b0 b1 b2 b3
  obtain ⟨rz, hrz⟩ : ∃ rz, rz = Z.length := ⟨_, rfl⟩
  rw [← hrz] at hft hmk ⊢
  have hX : Ext w ((w.alloc (.cells #[.int .u8 b, .slice sa rz cap, .bool vals] 24)).alloc (.cells #[.int .i8 z0, .int .i8 z1, .int .i8 z2, .int .i8 z3] 52)) := ((Ext.refl w).alloc _).alloc _
  have p0 : ((w.alloc (.cells #[.int .u8 b, .slice sa rz cap, .bool vals] 24)).alloc (.cells #[.int .i8 z0, .int .i8 z1, .int .i8 z2, .int .i8 z3] 52)).cell? ⟨w.heap.size, 0, none⟩ = some (.int .u8 b) := by go_simp
  have p1 : ((w.alloc (.cells #[.int .u8 b, .slice sa rz cap, .bool vals] 24)).alloc (.cells #[.int .i8 z0, .int .i8 z1, .int .i8 z2, .int .i8 z3] 52)).cell? ⟨w.heap.size, 1, none⟩ = some (.slice sa rz cap) := by go_simp
  have p2 : ((w.alloc (.cells #[.int .u8 b, .slice sa rz cap, .bool vals] 24)).alloc (.cells #[.int .i8 z0, .int .i8 z1, .int .i8 z2, .int .i8 z3] 52)).cell? ⟨w.heap.size, 2, none⟩ = some (.bool vals) := by go_simp
  have q0 : ((w.alloc (.cells #[.int .u8 b, .slice sa rz cap, .bool vals] 24)).alloc (.cells #[.int .i8 z0, .int .i8 z1, .int .i8 z2, .int .i8 z3] 52)).cell? ⟨w.heap.size + 1, 0, none⟩ = some (.int .i8 z0) := by go_simp
  have q1 : ((w.alloc (.cells #[.int .u8 b, .slice sa rz cap, .bool vals] 24)).alloc (.cells #[.int .i8 z0, .int .i8 z1, .int .i8 z2, .int .i8 z3] 52)).cell? ⟨w.heap.size + 1, 1, none⟩ = some (.int .i8 z1) := by go_simp
  have q2 : ((w.alloc (.cells #[.int .u8 b, .slice sa rz cap, .bool vals] 24)).alloc (.cells #[.int .i8 z0, .int .i8 z1, .int .i8 z2, .int .i8 z3] 52)).cell? ⟨w.heap.size + 1, 2, none⟩ = some (.int .i8 z2) := by go_simp
  have q3 : ((w.alloc (.cells #[.int .u8 b, .slice sa rz cap, .bool vals] 24)).alloc (.cells #[.int .i8 z0, .int .i8 z1, .int .i8 z2, .int .i8 z3] 52)).cell? ⟨w.heap.size + 1, 3, none⟩ = some (.int .i8 z3) := by go_simp
  clear hrz hb hR hL
  by_cases hz3 : rz ≤ 3
  · rw [decide_eq_true hz3] at hft
    replace hmk := Lib.hid (fun W hW => hmk.out W hW hz3)
    clear hz3
    go_enter Tryz.func5, Tryz.ntmps5
    go_wp2_with fail
    refine (hkn.out _ hX).mono ?_
    rintro e X ⟨rfl, hE1⟩
    have p0 := hE1.cell p0
    have p1 := hE1.cell p1
    have p2 := hE1.cell p2
    have q0 := hE1.cell q0
    have q1 := hE1.cell q1
    have q2 := hE1.cell q2
    have q3 := hE1.cell q3
    have e1 := hX.trans hE1
    clear hE1
    go_wp2_with fail
    refine (hft.out _ e1).mono ?_
    rintro e X2 ⟨rfl, hE2⟩
    have p0 := hE2.cell p0
    have p1 := hE2.cell p1
    have p2 := hE2.cell p2
    have q0 := hE2.cell q0
    have q1 := hE2.cell q1
    have q2 := hE2.cell q2
    have q3 := hE2.cell q3
    have e2 := e1.trans hE2
    clear hE2
    go_wp2_with fail
    refine (hmk.out _ e2).mono ?_
    rintro e X4 ⟨t, C, M, rfl, ht, hE3⟩
    have e4 := e2.trans hE3
    generalize prL b = P at *
    obtain ⟨sp, cp, sc, lc, cc, sm, lm, cm, rfl, hT⟩ := ht.open
    have hml : lm = M.length := by obtain ⟨_, _, _, _, _, e, _⟩ := hT.hM; injection e
    subst hml
    have hp4 := hT.ok.p4
    obtain ⟨psM, hIM⟩ := hT.ok.kM.1
    have hlM : M.length ≤ 4 := by have := isH_len hIM; omega
    have Hok := Lib.hid hT.ok
    have ea := (Ext.refl X4).alloc (.cells #[.slice sp P.length cp, .slice sc lc cc, .slice sm M.length cm] 34)
    have e5 := e4.alloc (.cells #[.slice sp P.length cp, .slice sc lc cc, .slice sm M.length cm] 34)
    have t0 : (X4.alloc (.cells #[.slice sp P.length cp, .slice sc lc cc, .slice sm M.length cm] 34)).cell? ⟨X4.heap.size, 0, none⟩ = some (.slice sp P.length cp) := by go_simp
    have t1 : (X4.alloc (.cells #[.slice sp P.length cp, .slice sc lc cc, .slice sm M.length cm] 34)).cell? ⟨X4.heap.size, 1, none⟩ = some (.slice sc lc cc) := by go_simp
    have t2 : (X4.alloc (.cells #[.slice sp P.length cp, .slice sc lc cc, .slice sm M.length cm] 34)).cell? ⟨X4.heap.size, 2, none⟩ = some (.slice sm M.length cm) := by go_simp
    replace q0 := ea.cell (hE3.cell q0)
    replace q1 := ea.cell (hE3.cell q1)
    replace q2 := ea.cell (hE3.cell q2)
    replace q3 := ea.cell (hE3.cell q3)
    have HT4 := Lib.hid (hT.ext ea)
    have hiv := Lib.hid (interval12_any HT4.out.hP hp4 HAr.out)
    have hpi := Lib.hid (fun W s m c (y : List Int) (hW : Ext (X4.alloc (.cells #[.slice sp P.length cp, .slice sc lc cc, .slice sm M.length cm] 34)) W) (hy : RowR W (.slice s m c) y) => gPreimage_any (HT4.out.ext hW) hy (HL.out.ext (e5.trans hW)))
    have hse := Lib.hid (fun W (hW : Ext (X4.alloc (.cells #[.slice sp P.length cp, .slice sc lc cc, .slice sm M.length cm] 34)) W) => gSection_any (HT4.out.ext hW) (HL.out.ext (e5.trans hW)))
    have hte := Lib.hid (fun W s m c (y : List Int) (hW : Ext (X4.alloc (.cells #[.slice sp P.length cp, .slice sc lc cc, .slice sm M.length cm] 34)) W) (hy : RowR W (.slice s m c) y) => Temper_any (HT4.out.ext hW) hy (HL.out.ext (e5.trans hW)))
    have hre := Lib.hid (fun W s m c (y : List Int) (hW : Ext (X4.alloc (.cells #[.slice sp P.length cp, .slice sc lc cc, .slice sm M.length cm] 34)) W) (hy : RowR W (.slice s m c) y) (hb : bgE P.length y = 0) => tRepresent_ok (HT4.out.ext hW) hy hb (HL.out.ext (e5.trans hW)))
    have hsa := Lib.hid (fun W va vb (u v : List Int) (ha : RowR W va u) (hb : RowR W vb v) (hl : u.length ≤ 1000000) => Same_any ha hb hl)
    have Hbx := Lib.hid (ivl_bg (zs := [z0, z1, z2, z3]) rfl hp4)
    have Hxl := Lib.hid (ivL_len (zs := [z0, z1, z2, z3]) rfl hp4)
    obtain ⟨x, hx⟩ : ∃ x, x = ivL P.length [z0, z1, z2, z3] := ⟨_, rfl⟩
    rw [← hx] at hiv Hbx Hxl
    clear ht hE3 hmk hft hkn p0 p1 p2 e1 e2 hX hT HAr hx hIM
    go_wp2_with fail
    refine hiv.out.mono ?_
    rintro e Y0 ⟨v0, rfl, hv0, hF0⟩
    obtain ⟨va0, _, _, vk0, hve, _⟩ := id hv0.row
    have HX := Lib.hid hv0.row
    subst hve
    rw [Hxl.out] at HX ⊢
    replace t0 := hF0.cell t0
    replace t1 := hF0.cell t1
    replace t2 := hF0.cell t2
    have hte1 := Lib.hid (hte.out _ _ _ _ x hF0 HX.out)
    clear hv0 hiv q0 q1 q2 q3
    go_wp2_with fail
    refine hte1.out.mono ?_
    intro e Y1 h
    obtain ⟨hF1, s1, m1, c1, ec, zt, rfl, hz, hz2⟩ := tp_sym h Hbx.out
    replace t0 := hF1.cell t0
    replace t1 := hF1.cell t1
    replace t2 := hF1.cell t2
    have f1 := hF0.trans hF1
    have HZ := Lib.hid hz
    have HZ2 := Lib.hid hz2
    have hse1 := Lib.hid (hse.out _ f1)
    clear h hz hz2 hte1 hse
    go_wp2_with fail
    refine hse1.out.mono ?_
    intro e Y2 h
    obtain ⟨hF2, s2, m2, c2, fc, S, rfl, hS, hS2⟩ := sec_sym h
    replace t0 := hF2.cell t0
    replace t1 := hF2.cell t1
    replace t2 := hF2.cell t2
    have f2 := f1.trans hF2
    have HS := Lib.hid hS
    have HS2 := Lib.hid hS2
    have hpi1 := Lib.hid (hpi.out _ _ _ _ zt f2 (HZ.out.ext hF2))
    clear h hS hS2 hse1 hpi
    go_wp2_with fail
    refine hpi1.out.mono ?_
    intro e Y3 h
    obtain ⟨hF3, s3, m3, c3, gc, y, rfl, hy, hy2⟩ := pim_sym h
    replace t0 := hF3.cell t0
    replace t1 := hF3.cell t1
    replace t2 := hF3.cell t2
    have f3 := f2.trans hF3
    have HY := Lib.hid hy
    have HY2 := Lib.hid hy2
    have hre1 := Lib.hid (hre.out _ _ _ _ x f3 (((HX.out.ext hF1).ext hF2).ext hF3) Hbx.out)
    clear h hy hy2 hpi1 hre
    go_wp2_with fail
    refine hre1.out.mono ?_
    intro e Y4 h
    obtain ⟨hF4, s4, m4, c4, hc, r, rfl, hr, hr2⟩ := lrp_sym h
    replace t0 := hF4.cell t0
    replace t1 := hF4.cell t1
    replace t2 := hF4.cell t2
    have f4 := f3.trans hF4
    have HR := Lib.hid hr
    have HR2 := Lib.hid hr2
    clear h hr hr2 hre1
    have eF := e5.trans f4
    have HF := Lib.hid (And.intro hF1 (And.intro hF2 (And.intro hF3 hF4)))
    clear hF1 hF2 hF3 hF4 f1 f2 f3 hF0
    rcases HZ2.out with ⟨hec, hzt, hsm⟩ | ⟨hec, _, _⟩
    · subst hec
      rcases HS2.out with ⟨hfc, hSo⟩ | ⟨hfc, _⟩
      · subst hfc
        rcases HY2.out.2 (by rw [hzt]; exact tmpl_bg hsm hlM) with hgc | hgc
        · subst hgc
          rcases HR2.out with ⟨hhc, hro, _⟩ | ⟨hhc, _⟩
          · subst hhc
            have Hpre := Lib.hid (HY2.out.1 rfl)
            have Hzt := Lib.hid hzt
            have Hro := Lib.hid hro
            have HSo := Lib.hid hSo
            have Hsm := Lib.hid hsm
            clear hzt hro hSo hsm HZ2 HS2 HY2 HR2
            obtain ⟨hF1, hF2, hF3, hF4⟩ := HF.out
            have hzl : zt.length = M.length := by rw [Hzt.out, tmpL_length]
            have hSlen : S.length = M.length := HSo.out.len
            have Hyr := Lib.hid (show y = r by rw [Hro.out]; exact Hpre.out.eq_rep Hok.out Hxl.out Hzt.out.symm)
            have Hzb := Lib.hid (fun j => show (zt.getD j 0).natAbs ≤ 1000000000 by
              have := getD_bd9 (smallB_iff.1 Hsm.out) j
              rw [Hzt.out]; omega)
            have HSb := Lib.hid (fun j k => show ((S.getD j []).getD k 0).natAbs ≤ 1000000000 by
              rcases Nat.lt_or_ge j S.length with hj | hj
              · rw [getD_get hj]
                have := getD_bd9 (HSo.out.row j hj).2.2.2 k
                omega
              · rw [List.getD_eq_getElem?_getD (l := S), List.getElem?_eq_none hj]; simp)
            have hF24 := hF2.trans (hF3.trans hF4)
            have hF34 := hF3.trans hF4
            obtain ⟨_, gz, oz, cz, ez, _, hSz⟩ := id HZ.out
            injection ez with u1 u2 u3
            subst u1 u3
            obtain ⟨_, gS, oS, cS, vs, eS, _, hvl, hSS, hrw⟩ := id HS.out
            injection eS with u1 u4 u3
            subst u1 u3
            rw [hzl] at u2
            rw [hSlen] at u4
            subst u2 u4
            have HSz := Lib.hid (hSz.ext hF24)
            have HSS := Lib.hid hSS
            have HVl := Lib.hid hvl
            have Hrw := Lib.hid hrw
            have Hzl := Lib.hid hzl
            have HSl := Lib.hid hSlen
            have HF34 := Lib.hid hF34
            have HSrow := Lib.hid (fun i (hi : i < S.length) => (HSo.out.row i hi).1)
            have HZY := Lib.hid (HZ.out.ext hF24)
            have HYY := Lib.hid (HY.out.ext hF4)
            clear hF1 hF2 hF3 hF4 HF hF24 hF34 hSz hSS hvl hrw hzl hSlen HZ HS HY
            go_wp2_with (at_make; refine wpList_make_full _ rfl _ _ 26 rfl Y4.heap.size 3 i0 (.int .i64 0) 1 Tryz.underlying26 hi hy0 hy1 .i64 .i64 _ _ P.length rfl rfl (by omega) (by omega) (by rw [hy2]; omega) (by unfold maxLen; omega) (Nat.le_refl _) ?_; intro Y5 hown1 hgrow1)
            have hE5 := ext_grown hgrow1
            have hO0 : OwnV 3 Y4.heap.size Y5 Y4.heap.size P.length (is (prtL zt S P.length 0 0)) := by rw [prtL_zero]; exact row_ownV (zero_row hown1) (by simp)
            have HO0 := Lib.hid hO0
            obtain ⟨g, hg⟩ : ∃ g, g = Y4.heap.size := ⟨_, rfl⟩
            rw [← hg] at HO0 ⊢
            have Hg := Lib.hid hg
            clear hO0 hown1 hgrow1 hg
            go_wp2_with fail
            go_loopw [16] (fun idx wr => ∃ i : Nat, i ≤ M.length ∧ idx = .int .i64 i ∧ Hid (OwnV 3 g wr g P.length (is (prtL zt S P.length i 0))) ∧ Ext Y4 wr) (fun idx _ => M.length - (intOf idx).toNat)
            case atStart => exact ⟨0, by omega, by go_num, HO0, hE5⟩
            case round =>
              clear HO0 hE5
              obtain ⟨i, hiM, rfl, HO, hE⟩ := hrel
              generalize wr = U at *
              by_cases hlt : i < M.length
              · have hii : (i : Int) < (M.length : Int) := by omega
                go_wp2_with fail
                go_loopw [17] (fun idx wr => ∃ c : Nat, c ≤ P.length ∧ idx = .int .i64 c ∧ Hid (OwnV 3 g wr g P.length (is (prtL zt S P.length i c))) ∧ Ext Y4 wr) (fun idx _ => P.length - (intOf idx).toNat)
                case atStart => exact ⟨0, by omega, by go_num, HO, hE⟩
                case round =>
                  clear HO hE
                  obtain ⟨c, hcP, rfl, HO, hE⟩ := hrel
                  generalize wr = V at *
                  by_cases hcl : c < P.length
                  · have hci : (c : Int) < (P.length : Int) := by omega
                    have hiS : i < S.length := by rw [HSl.out]; exact hlt
                    obtain ⟨a, ha⟩ : ∃ a, a = (prtL zt S P.length i c).getD c 0 := ⟨_, rfl⟩
                    obtain ⟨zi, hzi⟩ : ∃ zi, zi = zt.getD i 0 := ⟨_, rfl⟩
                    obtain ⟨si, hsi⟩ : ∃ si, si = (S.getD i []).getD c 0 := ⟨_, rfl⟩
                    have hstep := prtL_step zt S i hcl
                    have hab := prtL_bd (i := i) hcl Hzb.out HSb.out
                    have hzb := Hzb.out i
                    have hsb := HSb.out i c
                    rw [← ha] at hstep hab
                    rw [← hzi] at hstep hzb
                    rw [← hsi] at hstep hsb
                    have hpr : (zi * si).natAbs ≤ 1000000000000000000 := by
                      rw [Int.natAbs_mul]
                      have := Nat.mul_le_mul hzb hsb
                      omega
                    have hw1 : IntKind.i64.wrap (zi * si) = zi * si := IntWalk.i64_in _ (by omega)
                    have hw2 : IntKind.i64.wrap (a + zi * si) = a + zi * si := IntWalk.i64_in _ (by omega)
                    have hca : V.cell? ⟨g, c, none⟩ = some (.int .i64 a) := by
                      have := HO.out.cell (j := c) (by simpa using hcl)
                      rw [this, ha, getD_get (by simpa using hcl)]; simp [is]
                    have hcz := (HSz.out.ext hE).cell i (.int .i64 zi) (by rw [hzi, getD_get (by rw [Hzl.out]; exact hlt)]; exact is_get _)
                    obtain ⟨sr, br, or, cr, hrow, hrc, hSr⟩ := MatR.row HSS.out HVl.out Hrw.out hiS
                    have hrl := HSrow.out i hiS
                    have hch := (HF34.out.trans hE).cell hrow
                    have hcs := (hSr.ext (HF34.out.trans hE)).cell c (.int .i64 si) (by
                      rw [hsi, getD_get hiS, getD_get (by rw [hrl]; exact hcl)]; exact is_get _)
                    obtain rfl := hSr.addr (by rw [is_length, hrl]; omega)
                    obtain rfl := HSz.out.addr (by rw [is_length, Hzl.out]; omega)
                    obtain rfl := HSS.out.addr (by rw [HVl.out]; omega)
                    rw [hrl] at hch
                    have hfz := HO.out.frozen c
                    have Hstep := Lib.hid hstep
                    have k1 := cell_regrown hca
                    have k2 := cell_regrown hcz
                    have k3 := cell_regrown hch
                    have k4 := cell_regrown hcs
                    clear ha hzi hsi hstep hab hzb hsb hrow hrc hSr hrl hiS
                    go_wp2_with fail
                    refine wp_region_quiet_tail 18 (by kernel_rfl) (by kernel_rfl) ?_
                    simp only [List.take_succ_cons, List.take_zero, List.drop_succ_cons, List.drop_zero]
                    repeat (quiet_step (fail))
                    refine wpQuiet_nil ?_
                    intro _ hw'
                    obtain ⟨⟨dq, osq⟩, hw''⟩ := hw'
                    subst hw''
                    have hE5 := ext_regrown V dq osq
                    have hO5 := HO.out.ext hE5
                    have d5 := hE5.cell hca
                    clear k1 k2 k3 k4 hca hcz hch hcs hfz
                    generalize grow (redrawn V dq) osq = w5 at *
                    have f5 := hO5.frozen c
                    obtain ⟨hO6, hG6⟩ := hO5.set c (.int .i64 (a + zi * si))
                    rw [← is_set, ← Hstep.out] at hO6
                    have hE6 := ext_trans_grown (hE.trans hE5) hG6 (by rw [Hg.out]; exact Nat.le_refl _)
                    have HO6 := Lib.hid hO6
                    clear hO6 hG6 hO5 hE5
                    go_wp2_with fail
                    go_roundw
                    case rel => exact ⟨c + 1, by omega, by go_num, HO6, hE6⟩
                    case measure => simp [intOf] <;> omega
                  · obtain rfl : c = P.length := by omega
                    have HO2 := Lib.hid (show OwnV 3 g V g P.length (is (prtL zt S P.length (i + 1) 0)) by rw [← prtL_all]; exact HO.out)
                    go_wp2_with fail
                    go_roundw
                    case rel => exact ⟨i + 1, by omega, by go_num, HO2, hE⟩
                    case measure => simp [intOf] <;> omega
              · obtain rfl : i = M.length := by omega
                have g4 := f4.trans hE
                replace t0 := hE.cell t0
                replace t1 := hE.cell t1
                replace t2 := hE.cell t2
                have hte2 := Lib.hid (hte.out U (some ⟨g, 0, none⟩) P.length P.length (prtL zt S P.length M.length 0) g4 ⟨_, g, 0, P.length, by rw [prtL_length], by rw [prtL_length]; exact Nat.le_refl _, HO.out.sl⟩)
                have Hsum := Lib.hid (show tmpL M (prtL zt S P.length M.length 0) = zt from sec_sum HSo.out Hzl.out (prtL_length _ _ _ _ _) (fun c hc => by rw [prtL_getD zt S _ _ hc, if_neg (by omega)]))
                clear hte
                go_wp2_with fail
                refine hte2.out.mono ?_
                intro e U2 h
                obtain ⟨hG, s5, m5, c5, ic, v, rfl, hv, hv2⟩ := tp2_sym h (prtL_length _ _ _ _ _)
                have HV2 := Lib.hid hv2
                have hs1 := hsa.out U2 _ _ y r ((HYY.out.ext hE).ext hG) ((HR.out.ext hE).ext hG) (by rw [Hpre.out.len]; omega)
                rw [decide_eq_true Hyr.out] at hs1
                have Hs1 := Lib.hid hs1
                have Hv := Lib.hid hv
                have g5 := e5.trans (g4.trans hG)
                clear hs1 hv hv2 h hte2
                go_wp2_with fail
                refine Hs1.out.mono ?_
                rintro e U3 ⟨rfl, hH⟩
                rcases HV2.out with ⟨hic, hvv⟩ | hic
                · subst hic
                  have hs2 := hsa.out U3 _ _ v zt (Hv.out.ext hH) (((HZY.out.ext hE).ext hG).ext hH) (by rw [hvv, tmpL_length]; omega)
                  rw [decide_eq_true (by rw [hvv, Hsum.out])] at hs2
                  have Hs2 := Lib.hid hs2
                  clear hs2 hvv
                  go_wp2_with fail
                  refine Hs2.out.mono ?_
                  rintro e U4 ⟨rfl, hI⟩
                  have eZ := (g5.trans hH).trans hI
                  go_wp2_with fail
                  go_ret
                  exact ⟨rfl, eZ⟩
                · subst hic
                  have eZ := g5.trans hH
                  go_wp2_with fail
                  go_ret
                  exact ⟨rfl, eZ⟩
          · subst hhc
            clear hzt hsm hSo
            go_wp2_with fail
            go_ret
            exact ⟨rfl, eF⟩
        · subst hgc
          clear hzt hsm hSo
          go_wp2_with fail
          go_ret
          exact ⟨rfl, eF⟩
      · subst hfc
        clear hzt hsm
        go_wp2_with fail
        go_ret
        exact ⟨rfl, eF⟩
    · subst hec
      go_wp2_with fail
      go_ret
      exact ⟨rfl, eF⟩
  · rw [decide_eq_false hz3] at hft
    clear hz3 hmk
    go_enter Tryz.func5, Tryz.ntmps5
    go_wp2_with fail
    refine (hkn.out _ hX).mono ?_
    rintro e X ⟨rfl, hE1⟩
    have p0 := hE1.cell p0
    have p1 := hE1.cell p1
    have p2 := hE1.cell p2
    have e1 := hX.trans hE1
    clear hE1
    go_wp2_with fail
    refine (hft.out _ e1).mono ?_
    rintro e X2 ⟨rfl, hE2⟩
    have e2 := e1.trans hE2
    go_wp2_with fail
    refine (hkn.out _ e2).mono ?_
    rintro e X4 ⟨rfl, hEk⟩
    go_wp2_with fail
    go_ret
    exact ⟨rfl, e2.trans hEk⟩
end Go.Proofs.YtkjnjmihfonilaaGreatDoor
namespace Go.Proofs.YtkjnjmihfonilaaGreatDoor
open Go.ChangeShapes Go.WideShapes Go.ChangeAt Go.WideMaps Go.WideElems Go.RowKit Go.Deep
theorem okWide_arr {P : Program} {w : World} {r : Reach} {base : Nat} {t e : TypeId} {n : Nat} {v : Value} (ht : P.underlying t = some (.array n e)) (h : Value.okWide P w r base t v) : ∃ cs, v = .agg cs ∧ cs.size = P.cellsOf t := by
  simp only [Value.okWide, ht] at h
  obtain ⟨cs, h1, h2, _⟩ := h
  exact ⟨cs, h1, h2⟩
end Go.Proofs.YtkjnjmihfonilaaGreatDoor
namespace Go.Proofs.YtkjnjmihfonilaaGreatDoor
open Go.ChangeShapes Go.WideShapes Go.ChangeAt Go.WideMaps Go.WideElems Go.RowKit Go.Deep
theorem fr_ca4 : Tryz.prog.cellsOf 52 = 4 := by kernel_rfl
theorem arr4_open {H : Type} {enc : TypeId × Value → H} {W : World} {base : Nat} {sp : Nat → Bool} {held : Bool} {fuel : Nat} {cs : Array Value} {x : DataW H × List MemPlace} (hs : cs.size = 4)
    (h : DataW.trod enc Tryz.prog W base sp held fuel 52 cs.toList = some x) : ∃ z0 z1 z2 z3 : Int, cs = #[.int .i8 z0, .int .i8 z1, .int .i8 z2, .int .i8 z3] ∧ (-128 ≤ z0 ∧ z0 ≤ 127) ∧ (-128 ≤ z1 ∧ z1 ≤ 127) ∧ (-128 ≤ z2 ∧ z2 ≤ 127) ∧ (-128 ≤ z3 ∧ z3 ≤ 127) := by
  have hE := i8_cells Tryz.underlying52 h
  obtain ⟨z0, k0, b0⟩ := hE 0 (by omega)
  obtain ⟨z1, k1, b1⟩ := hE 1 (by omega)
  obtain ⟨z2, k2, b2⟩ := hE 2 (by omega)
  obtain ⟨z3, k3, b3⟩ := hE 3 (by omega)
  refine ⟨z0, z1, z2, z3, ?_, b0, b1, b2, b3⟩
  obtain ⟨l⟩ := cs
  match l, hs with
  | [c0, c1, c2, c3], _ =>
    simp at k0 k1 k2 k3
    subst k0 k1 k2 k3
    rfl
set_option maxRecDepth 100000 in
set_option maxHeartbeats 2000000 in
theorem generatorLaws_lifted (os : Os) (started : os.Started) (H : Type) (enc : TypeId × Value → H) :
    ReturnsInHanded {} Tryz.checked os 5 .any (fun w args => (Rows.generatorLawsSpec.pre enc Tryz.prog Tryz.f5 [] false w args ∧ laidMetH Tryz.prog fr_list w) ∧ sizedMet enc Tryz.prog Tryz.f5 (OpenSpec.ofChange Rows.generatorLawsSpec) false w args)
      (Rows.generatorLawsSpec.post enc Tryz.prog Tryz.f5 false true false false) := by
  refine returnsInHanded_of_change_and (C := Tryz.checked) (X := fun w _ => laidMetH Tryz.prog fr_list w) (fun _ _ _ hh h => h.of_heap hh) fr_own started (by kernel_rfl) Tryz.func5
    (ChangeSpec.witness_shaped (enc := enc) (C := Tryz.checked) (os := os) (X := fun w _ => laidMetH Tryz.prog fr_list w) false (World.doorLaid Tryz.prog 400 os) #[.agg #[.int .u8 0, .slice none 0 0, .bool false], .agg #[.int .i8 0, .int .i8 0, .int .i8 0, .int .i8 0]] 8 rfl (World.shaped_of_RefB (by kernel_rfl) (by kernel_rfl)) (by kernel_rfl) (by kernel_rfl) (by kernel_rfl) (door_met os _)) ?_
  intro W base args ds gs before hval0 hW _ _ hL _
  have hval : ∀ (j : Nat) t v, Tryz.f5.params[j]? = some t → args[j]? = some v → Value.okWide Tryz.prog W .any base t v := hval0
  have hW' := hW
  obtain ⟨p, q, hA0, hV, rfl, hfz, hnd⟩ := hW
  have hA : DataW.TrodAll enc Tryz.prog W 0 (fun _ => true) true Tryz.f5.params.toList args.toList ds p := hA0
  rw [Tryz.params5] at hA hval
  obtain ⟨v0, v1, d0, d1, p0, p1, rfl, rfl, rfl, h0, h1⟩ := trodAll_two hA
  obtain ⟨rfl, rfl⟩ := trodVars_none hV
  obtain ⟨cs0, rfl, hs0⟩ := okWide_struct Tryz.underlying24 (hval 0 24 v0 rfl rfl)
  rw [fr_cP18] at hs0
  obtain ⟨cs1, rfl, hs1⟩ := okWide_arr Tryz.underlying52 (hval 1 52 v1 rfl rfl)
  rw [fr_ca4] at hs1
  have h0k := h0
  have h1k := h1
  obtain ⟨fuel0, hf0⟩ := h0
  obtain ⟨B0, rv0, vl0, Z0, rfl, hB0, hZ0⟩ := plan18_open hs0 hf0
  obtain ⟨fuel1, hf1⟩ := h1
  obtain ⟨z1_0, z1_1, z1_2, z1_3, rfl, b1_0, b1_1, b1_2, b1_3⟩ := arr4_open hs1 hf1
  clear hA0 hval0 hf0 hf1
  simp only [List.append_nil] at hW'
  have hlt : ∀ z ∈ p0 ++ p1, z.block < W.heap.size := fun z hz => by simpa using hW'.lt z hz
  refine (lws_walk hB0 hZ0 b1_0 b1_1 b1_2 b1_3 (laid_of hL)).mono ?_
  rintro e W' ⟨rfl, hE⟩
  have e1 : Rows.generatorLawsSpec.fn H ([d0, d1] ++ []) = { results := [.lit (.bool true)], args := [d0, d1] } := rfl
  refine ⟨_, rfl, _, _, _, [], p0 ++ p1, [], hW', ?_, ?_, ?_, hE.frame _, fun h => by cases h⟩
  · rw [e1]; exact trodAll_mk1 (shut_bool Tryz.underlying4 true)
  · rw [e1]; exact trodAll_mk2 (Below.trod fr_laidOut (by kernel_rfl) (of_decide_eq_true (by kernel_rfl)) h0k hE fun x hx => hlt x (by simp [hx])) (Below.trod fr_laidOut (by kernel_rfl) (of_decide_eq_true (by kernel_rfl)) h1k hE fun x hx => hlt x (by simp [hx]))
  · rw [e1]; rfl
set_option maxHeartbeats 20000000 in
theorem generatorLaws_holds : Rows.GeneratorLawsSaid :=
  OpenClaim.holds_of_wide 5 Tryz.f5 rfl rfl rfl rfl rfl rfl rfl ⟨rfl, rfl, rfl, rfl, rfl⟩ rfl rfl rfl rfl rfl (by as_aux_lemma => kernel_rfl) Tryz.func5 (by
      unfold joinedFacts
      simp only [Bool.and_eq_true]
      repeat' apply And.intro
      all_goals (as_aux_lemma => kernel_rfl))
    (of_decide_eq_true (by kernel_rfl)) (by unfold Func.isWrapper; first | (rw [if_pos (by decide +kernel)]; kernel_rfl) | (rw [if_neg (by decide +kernel)]; exact ⟨rfl, rfl⟩))
    (fun os started H enc _ => generatorLaws_lifted os started H enc)
set_option maxHeartbeats 20000000 in
theorem generatorLaws_card : Rows.GeneratorLawsCardSaid :=
  Claim7.holds_tied_plain_at .later [] [.data, .data, .data, .sentinel, .sentinel] true Rows.generatorLawsCard.stood.harness true
    generatorLaws_holds (fun _ h => by cases h) (by as_aux_lemma => kernel_rfl) (fun _ h => by cases h) generatorLaws_row_tie rfl ⟨rfl, rfl⟩ (by as_aux_lemma => kernel_rfl) rfl
    (fun f fn hf hfn => by
      obtain rfl : f = 5 := Option.some.inj ((show Tryz.prog.funcNamed "schisma/schismalaw20.GeneratorLaws" = some 5 by as_aux_lemma => kernel_rfl).symm.trans hf) |>.symm
      obtain rfl : fn = Tryz.f5 := (Option.some.inj (Tryz.func5.symm.trans hfn)).symm
      exact ⟨by as_aux_lemma => kernel_rfl, fun j t ht => by
        rw [Tryz.params5] at ht
        have hm : t ∈ [24, 52] := by simpa using Array.mem_of_getElem? ht
        have hall : ([24, 52].all fun u => !Tryz.prog.wantsStandIn u) = true := by as_aux_lemma => kernel_rfl
        exact (show Tryz.prog.wantsStandIn t = false by simpa using List.all_eq_true.1 hall t hm)⟩)
    (by as_aux_lemma => kernel_rfl)
#print axioms generatorLaws_card
end Go.Proofs.YtkjnjmihfonilaaGreatDoor
namespace Go.Proofs.YtkjnjmihfonilaaGreatDoor
open Go.RowKit Go.Sort
def gnB (r : Nat) (free : Int) (fl : Nat) : Bool := decide (r = 0 ∨ (free = 0 ∧ fl = 0))
set_option maxRecDepth 100000 in
set_option maxHeartbeats 4000000 in
theorem gGenerates_u {w : World} {P : List Int} {C M : Mx} {sp : Option Addr} {cp : Nat} {sc : Option Addr} {lc cc : Nat} {sm : Option Addr} {lm cm : Nat} {sl : Option Addr} {nl cl : Nat} {L : Mx} {free : Int} {fl : Nat} (h : TmV w P C M M sp cp sc lc cc sm lm cm) (hl : MatR w (.slice sl nl cl) L) (hL : Laid w)
    (hls0 : lsE P.length L = 0) (ha : allS M L = true) (hbig : L.length ≤ 1000000)
    (hq : 0 < M.length → ∀ W v, Ext w W → MatR W v (L.map (tmpL M)) → Calls Tryz.prog 54 #[v, .int .i64 M.length] W fun e w' => (∃ s c, e = .returned (.tuple #[.slice s fl c, .int .i64 free, .int .i64 0])) ∧ Ext W w') :
    Calls Tryz.prog 26 #[tmS P sp cp sc lc cc sm lm cm, .slice sl nl cl] w fun e w' => e = .returned (.tuple #[.bool (gnB M.length free fl), .int .i64 0]) ∧ Ext w w' := by
  have hml : lm = M.length := by obtain ⟨_, _, _, _, _, e, _⟩ := h.hM; injection e
  subst hml
  have htm := Lib.hid (fun W (hW : Ext w W) => gtempered_any (h.ext hW) (hl.ext hW) (hL.ext hW) hbig)
  have Hq := Lib.hid hq
  have Ha := Lib.hid ha
  have Hl0 := Lib.hid hls0
  have hX := (Ext.refl w).alloc (.cells #[.slice sp P.length cp, .slice sc lc cc, .slice sm M.length cm] 34)
  have x0 : (w.alloc (.cells #[.slice sp P.length cp, .slice sc lc cc, .slice sm M.length cm] 34)).cell? ⟨w.heap.size, 0, none⟩ = some (.slice sp P.length cp) := by go_simp
  have x1 : (w.alloc (.cells #[.slice sp P.length cp, .slice sc lc cc, .slice sm M.length cm] 34)).cell? ⟨w.heap.size, 1, none⟩ = some (.slice sc lc cc) := by go_simp
  have x2 : (w.alloc (.cells #[.slice sp P.length cp, .slice sc lc cc, .slice sm M.length cm] 34)).cell? ⟨w.heap.size, 2, none⟩ = some (.slice sm M.length cm) := by go_simp
  clear h hl hL hls0 ha hq
  go_enter Tryz.func26, Tryz.ntmps26
  go_wp2_with fail
  refine (htm.out _ hX).mono ?_
  rintro e X ⟨hE1, (⟨k1, _⟩ | ⟨_, k1, _⟩ | ⟨_, _, v, rfl, hv⟩)⟩
  · exact absurd Hl0.out k1
  · rw [Ha.out] at k1; cases k1
  · have y2 := hE1.cell x2
    have e1 := hX.trans hE1
    have Hq1 := Lib.hid (fun h0 => Hq.out h0 X v e1 hv.mat)
    obtain ⟨va, vl, vc, rfl⟩ := hv.slice
    clear Hq hv htm hE1 x0 x1 x2 hX
    by_cases h0 : M.length = 0
    · have Hb := Lib.hid (show gnB M.length free fl = true by unfold gnB; exact decide_eq_true (.inl h0))
      rw [h0] at y2
      clear h0 Hq1
      go_wp2_with fail
      go_ret2
      exact ⟨by rw [Hb.out]; rfl, e1⟩
    · have h0I : ¬ (M.length : Int) = 0 := by omega
      have h0b : ((M.length : Int) == 0) = false := beq_eq_false_iff_ne.2 h0I
      have hq2 := Lib.hid (Hq1.out (by omega))
      have Hg := Lib.hid (show gnB M.length free fl = (decide (free = 0) && decide (fl = 0)) by simp [gnB, h0])
      clear h0 Hq1
      by_cases hf : free = 0
      · subst hf
        by_cases hl0 : fl = 0
        · subst hl0
          go_wp2_with fail
          refine hq2.out.mono ?_
          rintro e X2 ⟨⟨s, c, rfl⟩, hE2⟩
          have e2 := e1.trans hE2
          go_wp2_with fail
          go_ret2
          exact ⟨by rw [Hg.out]; rfl, e2⟩
        · have hlI : ¬ (fl : Int) = 0 := by omega
          have hlb : ((fl : Int) == 0) = false := beq_eq_false_iff_ne.2 hlI
          have Hd := Lib.hid (decide_eq_false hl0)
          clear hl0
          go_wp2_with fail
          refine hq2.out.mono ?_
          rintro e X2 ⟨⟨s, c, rfl⟩, hE2⟩
          have e2 := e1.trans hE2
          go_wp2_with fail
          go_ret2
          exact ⟨by rw [Hg.out, Hd.out]; rfl, e2⟩
      · have hfb : (free == 0) = false := beq_eq_false_iff_ne.2 hf
        have Hd := Lib.hid (decide_eq_false hf)
        go_wp2_with fail
        refine hq2.out.mono ?_
        rintro e X2 ⟨⟨s, c, rfl⟩, hE2⟩
        have e2 := e1.trans hE2
        go_wp2_with fail
        go_ret2
        exact ⟨by rw [Hg.out, Hd.out]; rfl, e2⟩
end Go.Proofs.YtkjnjmihfonilaaGreatDoor
