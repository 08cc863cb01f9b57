/- Part 3, beside the shared parts, of the proof of the claim: contracts and plain laws; no condition. -/
import Derived.Test.YtkjnjmihfonilaaGreatDoorV01
import Derived.Test.YtkjnjmihfonilaaGreatDoorV02
import Derived.Test.YtkjnjmihfonilaaGreatDoorV03
import Derived.Test.YtkjnjmihfonilaaGreatDoorV04
import Derived.Test.YtkjnjmihfonilaaGreatDoorV05
import Derived.Test.YtkjnjmihfonilaaGreatDoorV06
import Derived.Test.YtkjnjmihfonilaaGreatDoorV07
import Derived.Test.YtkjnjmihfonilaaGreatDoorV08
import Derived.Test.YtkjnjmihfonilaaGreatDoorV09
import Derived.Test.YtkjnjmihfonilaaGreatDoorV10
import Derived.Test.YtkjnjmihfonilaaGreatDoorV11
import Derived.Test.YtkjnjmihfonilaaGreatDoorV12
import Derived.Test.YtkjnjmihfonilaaGreatDoorV13
import Derived.Test.YtkjnjmihfonilaaGreatDoorV14
import Derived.Test.YtkjnjmihfonilaaGreatDoorV15
import Derived.Test.YtkjnjmihfonilaaGreatDoorV16
import Derived.Test.YtkjnjmihfonilaaGreatDoorV17
import Derived.Test.YtkjnjmihfonilaaGreatDoorV18
import Derived.Test.YtkjnjmihfonilaaGreatDoorV19
import Derived.Test.YtkjnjmihfonilaaGreatDoorV20
import Derived.Test.YtkjnjmihfonilaaGreatDoorV21
import Derived.Test.YtkjnjmihfonilaaGreatDoorV22
import Derived.Test.YtkjnjmihfonilaaGreatDoorV23
import Derived.Test.YtkjnjmihfonilaaGreatDoorV24
import Derived.Test.YtkjnjmihfonilaaGreatDoorV25
import Derived.Test.YtkjnjmihfonilaaGreatDoorV26
import Derived.Test.YtkjnjmihfonilaaGreatDoorV27
import Derived.Test.YtkjnjmihfonilaaGreatDoorV28
import Derived.Test.YtkjnjmihfonilaaGreatDoorV29
import Derived.Test.YtkjnjmihfonilaaGreatDoorV30
import Derived.Test.YtkjnjmihfonilaaGreatDoorV31
import Derived.Test.YtkjnjmihfonilaaGreatDoorV32
import Derived.Test.YtkjnjmihfonilaaGreatDoorV33
import Derived.Test.YtkjnjmihfonilaaGreatDoorW01
import Derived.Test.YtkjnjmihfonilaaGreatDoorW02
import Derived.Test.YtkjnjmihfonilaaGreatDoorCards
import Derived.Test.YtkjnjmihfonilaaGreatDoorTie
import Derived.SevenTiedAt
namespace Go.Proofs.YtkjnjmihfonilaaGreatDoor
open Go.RowKit Go.Sort
set_option maxRecDepth 100000 in
set_option maxHeartbeats 4000000 in
theorem tRepresent_ok {w : World} {P : List Int} {C M : Mx} {sp : Option Addr} {cp : Nat} {sc : Option Addr} {lc cc : Nat} {sm : Option Addr} {lm cm : Nat} {sx : Option Addr} {n cx : Nat} {x : List Int} (h : TmV w P C M M sp cp sc lc cc sm lm cm) (hx : RowR w (.slice sx n cx) x) (hb : bgE P.length x = 0) (hL : Laid w) :
    Calls Tryz.prog 23 #[tmS P sp cp sc lc cc sm lm cm, .slice sx n cx] w (LrpPost w C x) := by
  have hbe := fun W b (hW : Ext w W) (hc : W.cell? ⟨b, 0, none⟩ = some (.slice sx n cx)) => begin1_any (b := b) (h.ext hW) hc (hx.ext hW) (hL.ext hW)
  rw [hb] at hbe
  have Hbe := Lib.hid hbe
  have hbx : chkRow x = 0 ∧ x.length = P.length := by
    unfold bgE at hb
    split at hb
    · rename_i h1
      split at hb
      · rename_i h2; exact ⟨h1, h2⟩
      · cases hb
    · rename_i h1; exact absurd hb h1
  obtain ⟨hcx, hlx⟩ := hbx
  obtain ⟨psC, hIC⟩ := h.ok.kC.1
  have hp0 := h.ok.p0
  have hp4 := h.ok.p4
  have hre := Lib.hid (fun W (hW : Ext w W) => lRepresent_any (h.hC.ext hW) hIC hp0 hp4 h.ok.sC (hx.ext hW) hlx hcx (hL.ext hW))
  have hX := (Ext.refl w).alloc (.cells #[.slice sp P.length cp, .slice sc lc cc, .slice sm lm cm] 34)
  have x0 : (w.alloc (.cells #[.slice sp P.length cp, .slice sc lc cc, .slice sm lm cm] 34)).cell? ⟨w.heap.size, 0, none⟩ = some (.slice sp P.length cp) := by go_simp
  have x1 : (w.alloc (.cells #[.slice sp P.length cp, .slice sc lc cc, .slice sm lm cm] 34)).cell? ⟨w.heap.size, 1, none⟩ = some (.slice sc lc cc) := by go_simp
  have x2 : (w.alloc (.cells #[.slice sp P.length cp, .slice sc lc cc, .slice sm lm cm] 34)).cell? ⟨w.heap.size, 2, none⟩ = some (.slice sm lm cm) := by go_simp
  have xb : ((w.alloc (.cells #[.slice sp P.length cp, .slice sc lc cc, .slice sm lm cm] 34)).alloc (.cells #[.slice sx n cx] 26)).cell? ⟨w.heap.size + 1, 0, none⟩ = some (.slice sx n cx) := by go_simp
  clear hb h hx hcx hlx hIC hp0 hp4 hbe hL
  go_enter Tryz.func23, Tryz.ntmps23
  go_wp2_with fail
  refine (Hbe.out _ (w.heap.size + 1) (hX.alloc (.cells #[.slice sx n cx] 26)) xb).mono ?_
  generalize w.alloc (.cells #[.slice sp P.length cp, .slice sc lc cc, .slice sm lm cm] 34) = V at *
  rintro e X ⟨rfl, hE1⟩
  have y0 := hE1.cell (((Ext.refl V).alloc (.cells #[.slice sx n cx] 26)).cell x0)
  have y1 := hE1.cell (((Ext.refl V).alloc (.cells #[.slice sx n cx] 26)).cell x1)
  have e1 := (hX.alloc (.cells #[.slice sx n cx] 26)).trans hE1
  have hre1 := Lib.hid (hre.out _ e1)
  have hsz := e1.size
  clear x0 x1 x2 xb Hbe hX hE1 hre
  generalize P.length = np at *
  go_wp2_with fail
  refine hre1.out.mono ?_
  rintro e W ⟨hE, (⟨hb, v, rfl, hv⟩ | ⟨hb, rfl⟩)⟩
  · have hF := e1.trans hE
    have Hv := Lib.hid (hv.mono hsz)
    have Hb := Lib.hid hb
    clear hv hb
    go_wp2_with fail
    go_ret2
    exact ⟨hF, .inl ⟨Hb.out, _, rfl, Hv.out⟩⟩
  · have hF := e1.trans hE
    have Hb := Lib.hid hb
    clear hb
    go_wp2_with fail
    go_ret2
    exact ⟨hF, .inr ⟨Hb.out, rfl⟩⟩
end Go.Proofs.YtkjnjmihfonilaaGreatDoor
namespace Go.Proofs.YtkjnjmihfonilaaGreatDoor
open Go.RowKit Go.Sort
theorem tmpl_sm {M : Mx} {x r : List Int} (h : tmpL M x = r) (hc : chkRow r = 0) : smallB (tmpL M x) = true := by
  rw [h]; exact smallB_iff.2 (chkRow_ok hc).2
theorem PreOK.bg {n : Nat} {C M : Mx} {r x : List Int} (h : PreOK n C M r x) (hn : n ≤ 4) : bgE n x = 0 := by
  unfold bgE
  rw [if_pos (small_chk (smallB_iff.2 h.sm) (by rw [h.len]; omega)), if_pos h.len]
theorem PreOK.smR {n : Nat} {C M : Mx} {r x : List Int} (h : PreOK n C M r x) : smallB (redX C x) = true := by
  rw [h.rep]; exact smallB_iff.2 h.sm
set_option maxRecDepth 100000 in
set_option maxHeartbeats 8000000 in
theorem pms_walk {w : World} {b : Int} {rv : Value} {Z : List (List Int)} {vals : Bool} {sx : Option Addr} {nx cx : Nat} {x : List Int} (hb : 0 ≤ b ∧ b ≤ 255) (hR : RowsA w rv Z) (hx : RowR w (.slice sx nx cx) x) (hxb : x.length ≤ 9223372036854775807) (hL : Laid w) :
    Calls Tryz.prog 4 #[.agg #[.int .u8 b, rv, .bool vals], .slice sx nx cx] w fun e w' => e = .returned (.bool true) ∧ Ext w w' := by
  have hkn := Lib.hid (fun W (hW : Ext w W) => known20_any (hL.ext hW))
  have hft := Lib.hid (fun W (hW : Ext w W) => fits18_any (b := b) (vals := vals) (hR.ext hW))
  have hmk := Lib.hid (fun W (hW : Ext w W) (h3 : Z.length ≤ 3) => make18_any (vals := vals) hb (hR.ext hW) h3 (hL.ext hW))
  have hsm := Lib.hid (fun W (hW : Ext w W) => small20_any (hx.ext hW) hxb)
  have HL := Lib.hid hL
  have Hx := Lib.hid hx
  obtain ⟨sa, gb, go, cap, rfl, k1, k2, k3, k4⟩ := id hR
  clear k1 k2 k3 k4
  obtain ⟨rz, hrz⟩ : ∃ rz, rz = Z.length := ⟨_, rfl⟩
  rw [← hrz] at hft hmk ⊢
  have hX := (Ext.refl w).alloc (.cells #[.int .u8 b, .slice sa rz cap, .bool vals] 24)
  have p0 : (w.alloc (.cells #[.int .u8 b, .slice sa rz cap, .bool vals] 24)).cell? ⟨w.heap.size, 0, none⟩ = some (.int .u8 b) := by go_simp
  have p1 : (w.alloc (.cells #[.int .u8 b, .slice sa rz cap, .bool vals] 24)).cell? ⟨w.heap.size, 1, none⟩ = some (.slice sa rz cap) := by go_simp
  have p2 : (w.alloc (.cells #[.int .u8 b, .slice sa rz cap, .bool vals] 24)).cell? ⟨w.heap.size, 2, none⟩ = some (.bool vals) := by go_simp
  clear hrz hb hR hL hx hxb
  by_cases hz3 : rz ≤ 3
  · rw [decide_eq_true hz3] at hft
    replace hmk := Lib.hid (fun W hW => hmk.out W hW hz3)
    clear hz3
    go_enter Tryz.func4, Tryz.ntmps4
    go_wp2_with fail
    refine (hkn.out _ hX).mono ?_
    rintro e X ⟨rfl, hE1⟩
    have p0 := hE1.cell p0
    have p1 := hE1.cell p1
    have p2 := hE1.cell p2
    have e1 := hX.trans hE1
    clear hE1
    go_wp2_with fail
    refine (hft.out _ e1).mono ?_
    rintro e X2 ⟨rfl, hE2⟩
    have p0 := hE2.cell p0
    have p1 := hE2.cell p1
    have p2 := hE2.cell p2
    have e2 := e1.trans hE2
    clear hE2
    go_wp2_with fail
    refine (hsm.out _ e2).mono ?_
    rintro e X3 ⟨⟨bb, rfl, _⟩, hE3⟩
    have p0 := hE3.cell p0
    have p1 := hE3.cell p1
    have p2 := hE3.cell p2
    have e3 := e2.trans hE3
    clear hE3
    cases bb
    · go_wp2_with fail
      refine (hkn.out _ e3).mono ?_
      rintro e X4 ⟨rfl, hEk⟩
      go_wp2_with fail
      go_ret
      exact ⟨rfl, e3.trans hEk⟩
    · go_wp2_with fail
      refine (hmk.out _ e3).mono ?_
      rintro e X4 ⟨t, C, M, rfl, ht, hE3⟩
      have e4 := e3.trans hE3
      generalize prL b = P at *
      obtain ⟨sp, cp, sc, lc, cc, sm, lm, cm, rfl, hT⟩ := ht.open
      have hml : lm = M.length := by obtain ⟨_, _, _, _, _, e, _⟩ := hT.hM; injection e
      subst hml
      have hp4 := hT.ok.p4
      have ea := (Ext.refl X4).alloc (.cells #[.slice sp P.length cp, .slice sc lc cc, .slice sm M.length cm] 34)
      have e5 := e4.alloc (.cells #[.slice sp P.length cp, .slice sc lc cc, .slice sm M.length cm] 34)
      have t0 : (X4.alloc (.cells #[.slice sp P.length cp, .slice sc lc cc, .slice sm M.length cm] 34)).cell? ⟨X4.heap.size, 0, none⟩ = some (.slice sp P.length cp) := by go_simp
      have t1 : (X4.alloc (.cells #[.slice sp P.length cp, .slice sc lc cc, .slice sm M.length cm] 34)).cell? ⟨X4.heap.size, 1, none⟩ = some (.slice sc lc cc) := by go_simp
      have t2 : (X4.alloc (.cells #[.slice sp P.length cp, .slice sc lc cc, .slice sm M.length cm] 34)).cell? ⟨X4.heap.size, 2, none⟩ = some (.slice sm M.length cm) := by go_simp
      have HT4 := Lib.hid (hT.ext ea)
      have hpi := Lib.hid (fun W (hW : Ext (X4.alloc (.cells #[.slice sp P.length cp, .slice sc lc cc, .slice sm M.length cm] 34)) W) => gPreimage_any (HT4.out.ext hW) (Hx.out.ext (e5.trans hW)) (HL.out.ext (e5.trans hW)))
      have htm := Lib.hid (fun W (hW : Ext (X4.alloc (.cells #[.slice sp P.length cp, .slice sc lc cc, .slice sm M.length cm] 34)) W) => tempered20_any (HT4.out.ext hW) (Hx.out.ext (e5.trans hW)))
      have hte := Lib.hid (fun W s m c (y : List Int) (hW : Ext (X4.alloc (.cells #[.slice sp P.length cp, .slice sc lc cc, .slice sm M.length cm] 34)) W) (hy : RowR W (.slice s m c) y) => Temper_any (HT4.out.ext hW) hy (HL.out.ext (e5.trans hW)))
      have hre := Lib.hid (fun W s m c (y : List Int) (hW : Ext (X4.alloc (.cells #[.slice sp P.length cp, .slice sc lc cc, .slice sm M.length cm] 34)) W) (hy : RowR W (.slice s m c) y) (hb : bgE P.length y = 0) => tRepresent_ok (HT4.out.ext hW) hy hb (HL.out.ext (e5.trans hW)))
      have hsa := Lib.hid (fun W va vb (u v : List Int) (ha : RowR W va u) (hb : RowR W vb v) (hl : u.length ≤ 1000000) => Same_any ha hb hl)
      obtain ⟨y, hy⟩ : ∃ y, y = bgE M.length x := ⟨_, rfl⟩
      rw [← hy] at htm
      have Hp4 := Lib.hid hp4
      clear ht hE3 hmk hft hsm hkn p0 p1 p2 e1 e2 e3 hX hT hp4
      by_cases hy0 : y = 0
      · subst hy0
        have Hb0 := Lib.hid hy.symm
        clear hy
        go_wp2_with fail
        refine (hpi.out _ (Ext.refl _)).mono ?_
        rintro e Y1 (⟨q, _⟩ | ⟨_, hF1, (⟨v, z, rfl, hv, hp⟩ | rfl)⟩)
        · exact absurd Hb0.out q
        · obtain ⟨va, _, _, vk, hve, _⟩ := id hv.row
          have Hv := Lib.hid hv
          have Hp := Lib.hid hp
          have hzl : z.length = P.length := hp.len
          subst hve
          rw [hzl] at Hv ⊢
          replace t0 := hF1.cell t0
          replace t1 := hF1.cell t1
          replace t2 := hF1.cell t2
          clear hv hp hzl
          go_wp2_with fail
          refine (htm.out _ hF1).mono ?_
          rintro e Y2 ⟨rfl, hF2⟩
          replace t0 := hF2.cell t0
          replace t1 := hF2.cell t1
          replace t2 := hF2.cell t2
          have f2 := hF1.trans hF2
          have hte1 := Lib.hid (hte.out _ _ _ _ z f2 (Hv.out.ext hF2).row)
          clear hte
          go_wp2_with fail
          refine hte1.out.mono ?_
          rintro e Y3 ⟨hF3, (⟨_, _, v2, rfl, hv2⟩ | ⟨_, q, _⟩ | ⟨q, _⟩)⟩
          · obtain ⟨va2, _, _, vk2, hve2, _⟩ := id hv2.row
            have Hv2 := Lib.hid hv2
            subst hve2
            rw [tmpL_length] at Hv2 ⊢
            replace t0 := hF3.cell t0
            replace t1 := hF3.cell t1
            replace t2 := hF3.cell t2
            have f3 := f2.trans hF3
            have hre1 := Lib.hid (hre.out _ _ _ _ z f3 ((Hv.out.ext hF2).ext hF3).row (Hp.out.bg Hp4.out))
            clear hre hte1 hv2
            go_wp2_with fail
            refine hre1.out.mono ?_
            rintro e Y4 ⟨hF4, (⟨_, v3, rfl, hv3⟩ | ⟨q, _⟩)⟩
            · obtain ⟨va3, _, _, vk3, hve3, _⟩ := id hv3.row
              have Hv3 := Lib.hid hv3
              subst hve3
              rw [redX_length, Hp.out.len] at Hv3 ⊢
              replace t0 := hF4.cell t0
              have f4 := f3.trans hF4
              have hs1 := hsa.out Y4 _ _ (tmpL M z) x (Hv2.out.ext hF4).row (Hx.out.ext (e5.trans f4)) (by have := (chkRow_ok (bgE_ok Hb0.out).1).1; rw [Hp.out.tmp]; omega)
              rw [decide_eq_true Hp.out.tmp] at hs1
              have Hs1 := Lib.hid hs1
              have hs2 := fun W (hW : Ext Y4 W) => hsa.out W _ _ (redX C z) z (Hv3.out.ext hW).row ((((Hv.out.ext hF2).ext hF3).ext hF4).ext hW).row (by rw [Hp.out.rep, Hp.out.len]; have := Hp4.out; omega)
              rw [decide_eq_true Hp.out.rep] at hs2
              have Hs2 := Lib.hid hs2
              clear hs1 hs2 hv3 hre1
              go_wp2_with fail
              refine Hs1.out.mono ?_
              rintro e Y5 ⟨rfl, hF5⟩
              replace t0 := hF5.cell t0
              go_wp2_with fail
              refine (Hs2.out _ hF5).mono ?_
              rintro e Y6 ⟨rfl, hF6⟩
              replace t0 := hF6.cell t0
              have eF := ((e5.trans f4).trans hF5).trans hF6
              go_wp2_with fail
              go_ret
              exact ⟨rfl, eF⟩
            · rw [Hp.out.smR] at q; cases q
          · rw [tmpl_sm Hp.out.tmp (bgE_ok Hb0.out).1] at q; cases q
          · exact absurd (Hp.out.bg Hp4.out) q
        · replace t0 := hF1.cell t0
          replace t1 := hF1.cell t1
          replace t2 := hF1.cell t2
          go_wp2_with fail
          refine (htm.out _ hF1).mono ?_
          rintro e Y2 ⟨rfl, hF2⟩
          have eF := (e5.trans hF1).trans hF2
          go_wp2_with fail
          go_ret
          exact ⟨rfl, eF⟩
      · have h2y : (y == 0) = false := beq_eq_false_iff_ne.2 hy0
        have h3y : (y != 0) = true := by simp [bne, h2y]
        have Hy := Lib.hid hy
        have Hbn := Lib.hid (show ¬ bgE M.length x = 0 by rw [← hy]; exact hy0)
        clear hy
        go_wp2_with fail
        refine (hpi.out _ (Ext.refl _)).mono ?_
        rintro e Y1 (⟨_, rfl, hF1⟩ | ⟨q, _⟩)
        · rw [← Hy.out]
          replace t0 := hF1.cell t0
          replace t1 := hF1.cell t1
          replace t2 := hF1.cell t2
          go_wp2_with fail
          refine (htm.out _ hF1).mono ?_
          rintro e Y2 ⟨rfl, hF2⟩
          have eF := (e5.trans hF1).trans hF2
          go_wp2_with fail
          go_ret
          exact ⟨rfl, eF⟩
        · exact absurd q Hbn.out
  · rw [decide_eq_false hz3] at hft
    clear hz3 hmk
    go_enter Tryz.func4, Tryz.ntmps4
    go_wp2_with fail
    refine (hkn.out _ hX).mono ?_
    rintro e X ⟨rfl, hE1⟩
    have p0 := hE1.cell p0
    have p1 := hE1.cell p1
    have p2 := hE1.cell p2
    have e1 := hX.trans hE1
    clear hE1
    go_wp2_with fail
    refine (hft.out _ e1).mono ?_
    rintro e X2 ⟨rfl, hE2⟩
    have e2 := e1.trans hE2
    go_wp2_with fail
    refine (hkn.out _ e2).mono ?_
    rintro e X4 ⟨rfl, hEk⟩
    go_wp2_with fail
    go_ret
    exact ⟨rfl, e2.trans hEk⟩
end Go.Proofs.YtkjnjmihfonilaaGreatDoor
namespace Go.Proofs.YtkjnjmihfonilaaGreatDoor
open Go.ChangeShapes Go.WideShapes Go.ChangeAt Go.WideMaps Go.WideElems Go.RowKit Go.Deep
set_option maxRecDepth 100000 in
set_option maxHeartbeats 2000000 in
theorem generatorPreimages_lifted (os : Os) (started : os.Started) (H : Type) (enc : TypeId × Value → H) :
    ReturnsInHanded {} Tryz.checked os 4 .any (fun w args => (Rows.generatorPreimagesSpec.pre enc Tryz.prog Tryz.f4 [] false w args ∧ laidMetH Tryz.prog fr_list w) ∧ sizedMet enc Tryz.prog Tryz.f4 (OpenSpec.ofChange Rows.generatorPreimagesSpec) false w args)
      (Rows.generatorPreimagesSpec.post enc Tryz.prog Tryz.f4 false true false false) := by
  refine returnsInHanded_of_change_and (C := Tryz.checked) (X := fun w _ => laidMetH Tryz.prog fr_list w) (fun _ _ _ hh h => h.of_heap hh) fr_own started (by kernel_rfl) Tryz.func4
    (ChangeSpec.witness_shaped (enc := enc) (C := Tryz.checked) (os := os) (X := fun w _ => laidMetH Tryz.prog fr_list w) false (World.doorLaid Tryz.prog 400 os) #[.agg #[.int .u8 0, .slice none 0 0, .bool false], .slice none 0 0] 8 rfl (World.shaped_of_RefB (by kernel_rfl) (by kernel_rfl)) (by kernel_rfl) (by kernel_rfl) (by kernel_rfl) (door_met os _)) ?_
  intro W base args ds gs before hval0 hW _ _ hL _
  have hval : ∀ (j : Nat) t v, Tryz.f4.params[j]? = some t → args[j]? = some v → Value.okWide Tryz.prog W .any base t v := hval0
  have hW' := hW
  obtain ⟨p, q, hA0, hV, rfl, hfz, hnd⟩ := hW
  have hA : DataW.TrodAll enc Tryz.prog W 0 (fun _ => true) true Tryz.f4.params.toList args.toList ds p := hA0
  rw [Tryz.params4] at hA hval
  obtain ⟨v0, v1, d0, d1, p0, p1, rfl, rfl, rfl, h0, h1⟩ := trodAll_two hA
  obtain ⟨rfl, rfl⟩ := trodVars_none hV
  obtain ⟨cs0, rfl, hs0⟩ := okWide_struct Tryz.underlying24 (hval 0 24 v0 rfl rfl)
  rw [fr_cP18] at hs0
  obtain ⟨a1, len1, cap1, rfl⟩ := okWide_slice Tryz.underlying26 (hval 1 26 v1 rfl rfl)
  have h0k := h0
  have h1k := h1
  obtain ⟨fuel0, hf0⟩ := h0
  obtain ⟨B0, rv0, vl0, Z0, rfl, hB0, hZ0⟩ := plan18_open hs0 hf0
  obtain ⟨fuel1, hf1⟩ := h1
  obtain ⟨r1, hR1, hm1⟩ := introw_open2 hf1
  clear hA0 hval0 hf0 hf1
  simp only [List.append_nil] at hW'
  have hlt : ∀ z ∈ p0 ++ p1, z.block < W.heap.size := fun z hz => by simpa using hW'.lt z hz
  refine (pms_walk hB0 hZ0 hR1 hm1 (laid_of hL)).mono ?_
  rintro e W' ⟨rfl, hE⟩
  have e1 : Rows.generatorPreimagesSpec.fn H ([d0, d1] ++ []) = { results := [.lit (.bool true)], args := [d0, d1] } := rfl
  refine ⟨_, rfl, _, _, _, [], p0 ++ p1, [], hW', ?_, ?_, ?_, hE.frame _, fun h => by cases h⟩
  · rw [e1]; exact trodAll_mk1 (shut_bool Tryz.underlying4 true)
  · rw [e1]; exact trodAll_mk2 (Below.trod fr_laidOut (by kernel_rfl) (of_decide_eq_true (by kernel_rfl)) h0k hE fun x hx => hlt x (by simp [hx])) (Below.trod fr_laidOut (by kernel_rfl) (of_decide_eq_true (by kernel_rfl)) h1k hE fun x hx => hlt x (by simp [hx]))
  · rw [e1]; rfl
set_option maxHeartbeats 20000000 in
theorem generatorPreimages_holds : Rows.GeneratorPreimagesSaid :=
  OpenClaim.holds_of_wide 4 Tryz.f4 rfl rfl rfl rfl rfl rfl rfl ⟨rfl, rfl, rfl, rfl, rfl⟩ rfl rfl rfl rfl rfl (by as_aux_lemma => kernel_rfl) Tryz.func4 (by
      unfold joinedFacts
      simp only [Bool.and_eq_true]
      repeat' apply And.intro
      all_goals (as_aux_lemma => kernel_rfl))
    (of_decide_eq_true (by kernel_rfl)) (by unfold Func.isWrapper; first | (rw [if_pos (by decide +kernel)]; kernel_rfl) | (rw [if_neg (by decide +kernel)]; exact ⟨rfl, rfl⟩))
    (fun os started H enc _ => generatorPreimages_lifted os started H enc)
set_option maxHeartbeats 20000000 in
theorem generatorPreimages_card : Rows.GeneratorPreimagesCardSaid :=
  Claim7.holds_tied_plain_at .later [] [.data, .data, .data, .sentinel, .sentinel] true Rows.generatorPreimagesCard.stood.harness true
    generatorPreimages_holds (fun _ h => by cases h) (by as_aux_lemma => kernel_rfl) (fun _ h => by cases h) generatorPreimages_row_tie rfl ⟨rfl, rfl⟩ (by as_aux_lemma => kernel_rfl) rfl
    (fun f fn hf hfn => by
      obtain rfl : f = 4 := Option.some.inj ((show Tryz.prog.funcNamed "schisma/schismalaw20.GeneratorPreimages" = some 4 by as_aux_lemma => kernel_rfl).symm.trans hf) |>.symm
      obtain rfl : fn = Tryz.f4 := (Option.some.inj (Tryz.func4.symm.trans hfn)).symm
      exact ⟨by as_aux_lemma => kernel_rfl, fun j t ht => by
        rw [Tryz.params4] at ht
        have hm : t ∈ [24, 26] := by simpa using Array.mem_of_getElem? ht
        have hall : ([24, 26].all fun u => !Tryz.prog.wantsStandIn u) = true := by as_aux_lemma => kernel_rfl
        exact (show Tryz.prog.wantsStandIn t = false by simpa using List.all_eq_true.1 hall t hm)⟩)
    (by as_aux_lemma => kernel_rfl)
#print axioms generatorPreimages_card
end Go.Proofs.YtkjnjmihfonilaaGreatDoor
namespace Go.Proofs.YtkjnjmihfonilaaGreatDoor
open Go.RowKit Go.Sort
set_option maxRecDepth 100000 in
set_option maxHeartbeats 1000000 in
theorem rowZero_ok {w : World} {n : Nat} (hn : n ≤ 64) :
    Calls Tryz.prog 93 #[.int .i64 n] w fun e w' => ∃ g, e = .returned (.tuple #[slv g n n, .int .i64 0]) ∧ OwnV 3 w.heap.size w' g n (is (List.replicate n 0)) ∧ Ext w w' := by
  obtain ⟨i0, hi, hz0, hz1, hz2⟩ := info_parts Tryz.infoInt
  have h1 : ¬ (n : Int) < 0 := by omega
  have h2 : ¬ (n : Int) > 64 := by omega
  have h3 : ¬ (64 : Int) < (n : Int) := by omega
  go_enter Tryz.func93, Tryz.ntmps93
  go_wp2_with (at_make; refine wpList_make_full _ rfl _ _ 26 rfl w.heap.size 3 i0 (.int .i64 0) 1 Tryz.underlying26 hi hz0 hz1 .i64 .i64 _ _ n rfl rfl (by omega) (by omega) (by rw [hz2]; omega) (by unfold maxLen; omega) (Nat.le_refl _) ?_; intro w1 hown1 hgrow1)
  have hE1 := ext_grown hgrow1
  have hb0 : OwnV 3 w.heap.size w1 w.heap.size n (is (List.replicate n 0)) := row_ownV (zero_row hown1) (by simp)
  have Hb := Lib.hid hb0
  clear hb0 hown1 hgrow1
  go_wp2_with fail
  go_ret2
  exact ⟨_, rfl, Hb.out, hE1⟩
set_option maxRecDepth 100000 in
set_option maxHeartbeats 1000000 in
theorem rowUnit_ok {w : World} {n i : Nat} (hn : n ≤ 64) (hi : i < n) :
    Calls Tryz.prog 52 #[.int .i64 n, .int .i64 i] w fun e w' => ∃ g, e = .returned (.tuple #[slv g n n, .int .i64 0]) ∧ OwnV 3 w.heap.size w' g n (is (unitL n i)) ∧ Ext w w' := by
  have hz := Lib.hid (rowZero_ok (w := w) hn)
  have h1 : ¬ (i : Int) < 0 := by omega
  have h2 : ¬ (i : Int) ≥ (n : Int) := by omega
  have h3 : ¬ (n : Int) ≤ (i : Int) := by omega
  have h4 : (i : Int) < (n : Int) := by omega
  go_enter Tryz.func52, Tryz.ntmps52
  go_wp2_with fail
  refine hz.out.mono ?_
  rintro e w1 ⟨g, rfl, hO, hE1⟩
  have hcl := hO.cell (j := i) (by simpa using hi)
  have hfz := hO.frozen i
  obtain ⟨hO2, hG⟩ := hO.set i (.int .i64 1)
  rw [← is_set] at hO2
  have hE2 := ext_trans_grown hE1 hG hO.lt.1
  have Hq := Lib.hid (And.intro hO2 hE2)
  clear hz hO hO2 hE2 hG
  go_wp2_with fail
  go_ret2
  exact ⟨g, rfl, Hq.out.1, Hq.out.2⟩
end Go.Proofs.YtkjnjmihfonilaaGreatDoor
namespace Go.Proofs.YtkjnjmihfonilaaGreatDoor
open Go.RowKit Go.Sort
def SecPost (w : World) (n : Nat) (C M : Mx) (e : Ending) (w' : World) : Prop :=
  Ext w w' ∧ ((∃ v S, e = .returned (.tuple #[v, .int .i64 0]) ∧ MatO w.heap.size w' v S ∧ SecOK n C M S) ∨ e = .returned (.tuple #[.slice none 0 0, .int .i64 4]))
theorem unitL_chk {r i : Nat} (hr : r ≤ 64) : chkRow (unitL r i) = 0 := by
  refine small_chk (smallB_iff.2 fun z hz => ?_) (by simpa using hr)
  unfold unitL at hz
  rcases List.mem_or_eq_of_mem_set hz with h | h
  · have := (List.mem_replicate.1 h).2; omega
  · omega
def SecT (n : Nat) (C M S : Mx) : Prop := ∀ j (h : j < S.length), PreOK n C M (unitL M.length j) S[j]
theorem SecT.snoc {n : Nat} {C M S : Mx} {x : List Int} {i : Nat} (h : SecT n C M S) (hi : S.length = i) (hx : PreOK n C M (unitL M.length i) x) : SecT n C M (S ++ [x]) := fun j hj => by
  by_cases hlt : j < S.length
  · rw [List.getElem_append_left hlt]; exact h j hlt
  · have hje : j = i := by simp at hj; omega
    subst hje
    rw [List.getElem_append_right (by omega)]
    simp only [hi, Nat.sub_self, List.getElem_cons_zero]
    exact hx
set_option maxRecDepth 100000 in
set_option maxHeartbeats 4000000 in
theorem gSection_any {w : World} {P : List Int} {C M : Mx} {sp : Option Addr} {cp : Nat} {sc : Option Addr} {lc cc : Nat} {sm : Option Addr} {lm cm : Nat} (h : TmV w P C M M sp cp sc lc cc sm lm cm) (hL : Laid w) :
    Calls Tryz.prog 25 #[tmS P sp cp sc lc cc sm lm cm] w (SecPost w P.length C M) := by
  have hck := fun W (hW : Ext w W) => tCheck_any (h.ext hW) (hL.ext hW)
  rw [tmE_same] at hck
  have Hck := Lib.hid hck
  have hml : lm = M.length := by obtain ⟨_, _, _, _, _, e, _⟩ := h.hM; injection e
  subst hml
  obtain ⟨psM, hIM⟩ := h.ok.kM.1
  have hlM := isH_len hIM
  have hp4 := h.ok.p4
  have hpr := Lib.hid (fun W g i (hi : i < M.length) (hW : Ext w W) (hO : OwnV 3 0 W g M.length (is (unitL M.length i))) =>
    gpreimage_any (sx := some ⟨g, 0, none⟩) (nx := M.length) (cx := M.length) (h.ext hW) ⟨_, g, 0, M.length, by rw [unitL_length], by rw [unitL_length]; exact Nat.le_refl _, hO.sl⟩ (unitL_length _ _) (unitL_chk (by omega)) (hL.ext hW))
  have hX := (Ext.refl w).alloc (.cells #[.slice sp P.length cp, .slice sc lc cc, .slice sm M.length cm] 34)
  have x0 : (w.alloc (.cells #[.slice sp P.length cp, .slice sc lc cc, .slice sm M.length cm] 34)).cell? ⟨w.heap.size, 0, none⟩ = some (.slice sp P.length cp) := by go_simp
  have x1 : (w.alloc (.cells #[.slice sp P.length cp, .slice sc lc cc, .slice sm M.length cm] 34)).cell? ⟨w.heap.size, 1, none⟩ = some (.slice sc lc cc) := by go_simp
  have x2 : (w.alloc (.cells #[.slice sp P.length cp, .slice sc lc cc, .slice sm M.length cm] 34)).cell? ⟨w.heap.size, 2, none⟩ = some (.slice sm M.length cm) := by go_simp
  clear h hL hck hIM
  go_enter Tryz.func25, Tryz.ntmps25
  go_wp2_with fail
  refine (Hck.out _ hX).mono ?_
  rintro e X1 ⟨rfl, hE1⟩
  replace x0 := hE1.cell x0
  replace x1 := hE1.cell x1
  replace x2 := hE1.cell x2
  have e1 := hX.trans hE1
  clear hX hE1 Hck
  go_wp2_with fail
  go_loopw [5, 19] (fun out idx wr => ∃ (i : Nat) (S : Mx), i ≤ M.length ∧ idx = .int .i64 i ∧ Hid (MatO X1.heap.size wr out S) ∧ Hid (S.length = i ∧ SecT P.length C M S) ∧ Ext X1 wr) (fun _ idx _ => M.length - (intOf idx).toNat)
  case atStart => exact ⟨0, [], by omega, by go_num, Lib.hid (MatO.nil _ _), Lib.hid ⟨rfl, fun j h => by simp at h⟩, Ext.refl _⟩
  case round =>
    obtain ⟨i, S, hi, rfl, hO, hT, hE⟩ := hrel
    generalize wr = Y at *
    replace x0 := hE.cell x0
    replace x1 := hE.cell x1
    replace x2 := hE.cell x2
    have eY := e1.trans hE
    by_cases hlt : i < M.length
    · have hii : (i : Int) < (M.length : Int) := by omega
      have hun := Lib.hid (rowUnit_ok (w := Y) (n := M.length) (i := i) (by omega) hlt)
      go_wp2_with fail
      refine hun.out.mono ?_
      rintro e Y2 ⟨g, rfl, hU, hE2⟩
      replace x0 := hE2.cell x0
      replace x1 := hE2.cell x1
      replace x2 := hE2.cell x2
      have e2 := eY.trans hE2
      have hpr2 := Lib.hid (hpr.out _ g i hlt e2 (hU.mono (Nat.zero_le _)))
      have hE12 := hE.trans hE2
      clear hun hU
      go_wp2_with fail
      refine hpr2.out.mono ?_
      rintro e Y3 ⟨hE3, (⟨v, x, rfl, hv, hp⟩ | rfl)⟩
      · replace x0 := hE3.cell x0
        have hE13 := hE12.trans hE3
        have e3 := e2.trans hE3
        have hs2 := hE12.size
        have hs3 := hE13.size
        have hvs : ∃ s m c, v = .slice s m c := by obtain ⟨a, _, _, k, e, _⟩ := hv.row; exact ⟨_, _, _, e⟩
        obtain ⟨va, vl, vk, rfl⟩ := hvs
        have Hv := Lib.hid ((hv.mono hs2).ext ((Ext.refl Y3).alloc (.cells #[.slice va vl vk] 26)))
        have HO := Lib.hid ((hO.out.ext (hE2.trans hE3)).ext ((Ext.refl Y3).alloc (.cells #[.slice va vl vk] 26)))
        have HT := Lib.hid (hT.out.2.snoc hT.out.1 hp)
        have Hl := Lib.hid hT.out.1
        clear hv hp hO hT hpr2
        go_wp2_with (at_builtin; refine app_mat rfl _ _ rfl rfl HO.out rfl (b := Y3.heap.size) (r := x) (by go_simp) Hv.out (by rw [Hl.out]; omega) (by simp; omega) ?_; intro gg cap2 w8 hO8 hB8 hG8; rw [Hl.out] at hO8 ⊢)
        have hE8 : Ext X1 w8 := Ext.mk' (Below.trans (hE13.alloc (.cells #[.slice va vl vk] 26)) hB8)
        have HO8 := Lib.hid hO8
        clear hG8 hB8 hO8
        go_wp2_with fail
        go_roundw
        case rel => exact ⟨i + 1, S ++ [x], by omega, by go_num, HO8, Lib.hid ⟨by simp [Hl.out], HT.out⟩, hE8⟩
        case measure => simp [intOf] <;> omega
      · have e3 := e2.trans hE3
        go_wp2_with fail
        go_ret2
        exact ⟨e3, .inr rfl⟩
    · obtain rfl : i = M.length := by omega
      have Hq := Lib.hid (show MatO w.heap.size Y u5 S ∧ SecOK P.length C M S from ⟨hO.out.mono e1.size, hT.out.1, fun j hj => by
        have := hT.out.2 j hj
        exact ⟨this.len, this.tmp, this.rep, this.sm⟩⟩)
      go_wp2_with fail
      go_ret2
      exact ⟨eY, .inl ⟨_, S, rfl, Hq.out.1, Hq.out.2⟩⟩
end Go.Proofs.YtkjnjmihfonilaaGreatDoor
namespace Go.Proofs.YtkjnjmihfonilaaGreatDoor
open Go.RowKit Go.Sort
theorem nilR (w : World) : RowR w (.slice none 0 0) [] := (RowV.nil 0 w).row
theorem nilM (w : World) : MatR w (.slice none 0 0) [] := (MatO.nil 0 w).mat
theorem tp_sym {w w' : World} {np : Nat} {M : Mx} {x : List Int} {e : Ending} (h : TpPost w np M x e w') (hb : bgE np x = 0) :
    Ext w w' ∧ ∃ s m c k r, e = .returned (.tuple #[.slice s m c, .int .i64 k]) ∧ RowR w' (.slice s m c) r ∧ ((k = 0 ∧ r = tmpL M x ∧ smallB (tmpL M x) = true) ∨ (k = 4 ∧ r = [] ∧ 0 < M.length)) := by
  obtain ⟨hE, (⟨_, hs, v, rfl, hv⟩ | ⟨_, hs, rfl⟩ | ⟨q, _⟩)⟩ := h
  · have hr := hv.row
    obtain ⟨a, _, _, c, e, _⟩ := id hr
    subst e
    exact ⟨hE, _, _, _, 0, _, rfl, hr, .inl ⟨rfl, rfl, hs⟩⟩
  · refine ⟨hE, _, _, _, 4, [], rfl, nilR _, .inr ⟨rfl, rfl, ?_⟩⟩
    rcases Nat.eq_zero_or_pos M.length with h | h
    · rw [List.eq_nil_of_length_eq_zero h] at hs; cases hs
    · exact h
  · exact absurd hb q
theorem lrp_sym {w w' : World} {C : Mx} {x : List Int} {e : Ending} (h : LrpPost w C x e w') :
    Ext w w' ∧ ∃ s m c k r, e = .returned (.tuple #[.slice s m c, .int .i64 k]) ∧ RowR w' (.slice s m c) r ∧ ((k = 0 ∧ r = redX C x ∧ smallB (redX C x) = true) ∨ (k = 4 ∧ r = [])) := by
  obtain ⟨hE, (⟨hs, v, rfl, hv⟩ | ⟨hs, rfl⟩)⟩ := h
  · have hr := hv.row
    obtain ⟨a, _, _, c, e, _⟩ := id hr
    subst e
    exact ⟨hE, _, _, _, 0, _, rfl, hr, .inl ⟨rfl, rfl, hs⟩⟩
  · exact ⟨hE, _, _, _, 4, [], rfl, nilR _, .inr ⟨rfl, rfl⟩⟩
theorem sec_sym {w w' : World} {n : Nat} {C M : Mx} {e : Ending} (h : SecPost w n C M e w') :
    Ext w w' ∧ ∃ s m c k S, e = .returned (.tuple #[.slice s m c, .int .i64 k]) ∧ MatR w' (.slice s m c) S ∧ ((k = 0 ∧ SecOK n C M S) ∨ (k = 4 ∧ S = [])) := by
  obtain ⟨hE, (⟨v, S, rfl, hv, hS⟩ | rfl)⟩ := h
  · have hr := hv.mat
    obtain ⟨a, _, _, c, _, e, _⟩ := id hr
    subst e
    exact ⟨hE, _, _, _, 0, S, rfl, hr, .inl ⟨rfl, hS⟩⟩
  · exact ⟨hE, _, _, _, 4, [], rfl, nilM _, .inr ⟨rfl, rfl⟩⟩
theorem pim_sym {w w' : World} {n : Nat} {C M : Mx} {r : List Int} {e : Ending} (h : PimPost w n C M r e w') :
    Ext w w' ∧ ∃ s m c k y, e = .returned (.tuple #[.slice s m c, .int .i64 k]) ∧ RowR w' (.slice s m c) y ∧ (k = 0 → PreOK n C M r y) ∧ (bgE M.length r = 0 → k = 0 ∨ k = 4) := by
  rcases h with ⟨q, rfl, hE⟩ | ⟨q, hE, (⟨v, y, rfl, hv, hp⟩ | rfl)⟩
  · exact ⟨hE, _, _, _, _, [], rfl, nilR _, fun h => absurd h q, fun h => absurd h q⟩
  · have hr := hv.row
    obtain ⟨a, _, _, c, e, _⟩ := id hr
    subst e
    exact ⟨hE, _, _, _, 0, y, rfl, hr, fun _ => hp, fun _ => .inl rfl⟩
  · exact ⟨hE, _, _, _, 4, [], rfl, nilR _, fun h => by omega, fun _ => .inr rfl⟩
theorem tmpl_bg {M : Mx} {x : List Int} (hs : smallB (tmpL M x) = true) (hM : M.length ≤ 4) : bgE M.length (tmpL M x) = 0 := by
  unfold bgE
  rw [if_pos (small_chk hs (by rw [tmpL_length]; omega)), if_pos (tmpL_length _ _)]
theorem ivl_bg {n : Nat} {zs : List Int} (h4 : zs.length = 4) (hn : n ≤ 4) : bgE n (ivL n zs) = 0 := by
  have hl := ivL_len h4 hn
  unfold bgE
  rw [if_pos (small_chk (smallB_iff.2 fun z hz => by have := ivL_ent n zs z hz; omega) (by omega)), if_pos hl]
end Go.Proofs.YtkjnjmihfonilaaGreatDoor
