/- Part 2, beside the shared parts, of the proof of the claim: contracts and plain laws; no condition. -/
import Derived.Test.YtnlajhjoakijmaaGreatDoorV01
import Derived.Test.YtnlajhjoakijmaaGreatDoorV02
import Derived.Test.YtnlajhjoakijmaaGreatDoorV03
import Derived.Test.YtnlajhjoakijmaaGreatDoorV04
import Derived.Test.YtnlajhjoakijmaaGreatDoorV05
import Derived.Test.YtnlajhjoakijmaaGreatDoorV06
import Derived.Test.YtnlajhjoakijmaaGreatDoorV07
import Derived.Test.YtnlajhjoakijmaaGreatDoorV08
import Derived.Test.YtnlajhjoakijmaaGreatDoorV09
import Derived.Test.YtnlajhjoakijmaaGreatDoorV10
import Derived.Test.YtnlajhjoakijmaaGreatDoorV11
import Derived.Test.YtnlajhjoakijmaaGreatDoorV12
import Derived.Test.YtnlajhjoakijmaaGreatDoorV13
import Derived.Test.YtnlajhjoakijmaaGreatDoorV14
import Derived.Test.YtnlajhjoakijmaaGreatDoorV15
import Derived.Test.YtnlajhjoakijmaaGreatDoorV16
import Derived.Test.YtnlajhjoakijmaaGreatDoorV17
import Derived.Test.YtnlajhjoakijmaaGreatDoorV18
import Derived.Test.YtnlajhjoakijmaaGreatDoorV19
import Derived.Test.YtnlajhjoakijmaaGreatDoorV20
import Derived.Test.YtnlajhjoakijmaaGreatDoorV21
import Derived.Test.YtnlajhjoakijmaaGreatDoorV22
import Derived.Test.YtnlajhjoakijmaaGreatDoorV23
import Derived.Test.YtnlajhjoakijmaaGreatDoorV24
import Derived.Test.YtnlajhjoakijmaaGreatDoorV25
import Derived.Test.YtnlajhjoakijmaaGreatDoorV26
import Derived.Test.YtnlajhjoakijmaaGreatDoorV27
import Derived.Test.YtnlajhjoakijmaaGreatDoorV28
import Derived.Test.YtnlajhjoakijmaaGreatDoorV29
import Derived.Test.YtnlajhjoakijmaaGreatDoorV30
import Derived.Test.YtnlajhjoakijmaaGreatDoorV31
import Derived.Test.YtnlajhjoakijmaaGreatDoorV32
import Derived.Test.YtnlajhjoakijmaaGreatDoorX01
import Derived.BigFrame
import Derived.BigQuiet
namespace Go.Proofs.YtnlajhjoakijmaaGreatDoor
open Go.RowKit Go.Sort
structure SpF (np : Nat) (M L : Mx) (lo hi g : Int) : Prop where
  er : fbE np L ≠ 0 → lo = 0 ∧ hi = 0 ∧ g = fbE np L
  em : fbE np L = 0 → L.length = 0 → lo = 0 ∧ hi = 0 ∧ g = 13
  ok : fbE np L = 0 → L.length ≠ 0 → allS M L = true → lo = mnG M L L.length ∧ hi = mxG M L L.length ∧ g = 0
  li : fbE np L = 0 → L.length ≠ 0 → allS M L = false → g = 4
theorem sp_open {w w' : World} {np : Nat} {M L : Mx} {e : Ending} (h : SpPost w np M L e w') (h0 : twE M = 0) : Ext w w' ∧ ∃ lo hi g, e = .returned (.tuple #[.int .i64 lo, .int .i64 hi, .int .i64 g]) ∧ SpF np M L lo hi g := by
  obtain ⟨h1, h2⟩ := h
  refine ⟨h1, ?_⟩
  rw [if_pos h0] at h2
  by_cases hf : fbE np L = 0
  · rw [if_pos hf] at h2
    by_cases hl : L.length = 0
    · rw [if_pos hl] at h2
      exact ⟨_, _, _, h2, fun h => absurd hf h, fun _ _ => ⟨rfl, rfl, rfl⟩, fun _ h => absurd hl h, fun _ h => absurd hl h⟩
    · rw [if_neg hl] at h2
      by_cases ha : allS M L = true
      · rw [if_pos ha] at h2
        exact ⟨_, _, _, h2, fun h => absurd hf h, fun _ h => absurd h hl, fun _ _ _ => ⟨rfl, rfl, rfl⟩, fun _ _ h => by rw [h] at ha; cases ha⟩
      · rw [if_neg ha] at h2
        exact ⟨_, _, _, h2, fun h => absurd hf h, fun _ h => absurd h hl, fun _ _ h => absurd h ha, fun _ _ _ => rfl⟩
  · rw [if_neg hf] at h2
    exact ⟨_, _, _, h2, fun _ => ⟨rfl, rfl, rfl⟩, fun h => absurd h hf, fun h => absurd h hf, fun h => absurd h hf⟩
theorem of_open {w w' : World} {M : Mx} {e : Ending} {zz : Int} (h : OfPost w M e w') (h0 : twE M = 0) (hz : zz = eM M 0 0) : Ext w w' ∧ ∃ s9 n9 c9 s8 n8 c8, e = .returned (.tuple #[.agg #[.int .i64 zz, .slice s9 n9 c9, .slice s8 n8 c8], .int .i64 0]) ∧ RowR w' (.slice s9 n9 c9) (M.getD 0 []) ∧ RowR w' (.slice s8 n8 c8) (M.getD 1 []) := by
  obtain ⟨h1, ⟨q, _⟩ | ⟨_, va, vb, hRa, hRb, he⟩⟩ := h
  · exact absurd h0 q
  refine ⟨h1, ?_⟩
  rw [← hz] at he
  obtain ⟨s9, g9, o9, c9, rfl, _, _⟩ := id hRa
  obtain ⟨s8, g8, o8, c8, rfl, _, _⟩ := id hRb
  exact ⟨_, _, _, _, _, _, he, hRa, hRb⟩
set_option maxRecDepth 100000 in
set_option maxHeartbeats 8000000 in
theorem frm_walk {w : World} {b : Int} {rv : Value} {Z : List (List Int)} {vals : Bool} {sl : Option Addr} {nl cl : Nat} {L : Mx} (hb : 0 ≤ b ∧ b ≤ 255) (hR : RowsA w rv Z) (hl : MatR w (.slice sl nl cl) L) (hrb : ∀ r ∈ L, r.length ≤ 9223372036854775807) (hL : Laid w) :
    Calls Tryz.prog 3 #[.agg #[.int .u8 b, rv, .bool vals], .slice sl nl cl] w fun e w' => e = .returned (.bool true) ∧ Ext w w' := by
  have hkn := Lib.hid (fun W (hW : Ext w W) => known20_any (hL.ext hW))
  have hft := Lib.hid (fun W (hW : Ext w W) => fits18_any (b := b) (vals := vals) (hR.ext hW))
  have hmk := Lib.hid (fun W (hW : Ext w W) (h3 : Z.length ≤ 3) => make18_any (vals := vals) hb (hR.ext hW) h3 (hL.ext hW))
  have HL := Lib.hid hL
  have Hl := Lib.hid hl
  obtain ⟨sa, gb, go, cap, rfl, k1, k2, k3, k4⟩ := id hR
  clear k1 k2 k3 k4
  obtain ⟨rz, hrz⟩ : ∃ rz, rz = Z.length := ⟨_, rfl⟩
  rw [← hrz] at hft hmk ⊢
  obtain ⟨sl', gl, ol, cl', vs, el, hlc, hvl, hSl, hrl⟩ := hl
  injection el with q4 q5 q6
  subst q4 q6 q5
  have HS := Lib.hid hSl
  have HV := Lib.hid hvl
  have HR := Lib.hid hrl
  have Hrb := Lib.hid hrb
  have hX := (Ext.refl w).alloc (.cells #[.int .u8 b, .slice sa rz cap, .bool vals] 24)
  have p0 : (w.alloc (.cells #[.int .u8 b, .slice sa rz cap, .bool vals] 24)).cell? ⟨w.heap.size, 0, none⟩ = some (.int .u8 b) := by go_simp
  have p1 : (w.alloc (.cells #[.int .u8 b, .slice sa rz cap, .bool vals] 24)).cell? ⟨w.heap.size, 1, none⟩ = some (.slice sa rz cap) := by go_simp
  have p2 : (w.alloc (.cells #[.int .u8 b, .slice sa rz cap, .bool vals] 24)).cell? ⟨w.heap.size, 2, none⟩ = some (.bool vals) := by go_simp
  clear hrz hb hR hL hSl hvl hrl hrb
  by_cases hz3 : rz ≤ 3
  · rw [decide_eq_true hz3] at hft
    by_cases hn8 : 3 < L.length
    · have hnI : (3 : Int) < (L.length : Int) := by omega
      clear hmk hz3
      go_enter Tryz.func3, Tryz.ntmps3
      go_wp2_with fail
      refine (hkn.out _ hX).mono ?_
      rintro e X ⟨rfl, hE1⟩
      have p0 := hE1.cell p0
      have p1 := hE1.cell p1
      have p2 := hE1.cell p2
      have e1 := hX.trans hE1
      clear hE1
      go_wp2_with fail
      refine (hft.out _ e1).mono ?_
      rintro e X2 ⟨rfl, hE2⟩
      have p0 := hE2.cell p0
      have p1 := hE2.cell p1
      have p2 := hE2.cell p2
      have e2 := e1.trans hE2
      clear hE2
      go_wp2_with fail
      refine (hkn.out _ e2).mono ?_
      rintro e X3 ⟨rfl, hE3⟩
      go_wp2_with fail
      go_ret
      exact ⟨rfl, e2.trans hE3⟩
    · have hnI : ¬ (3 : Int) < (L.length : Int) := by omega
      replace hmk := Lib.hid (fun W hW => hmk.out W hW hz3)
      clear hz3
      go_enter Tryz.func3, Tryz.ntmps3
      go_wp2_with fail
      refine (hkn.out _ hX).mono ?_
      rintro e X ⟨rfl, hE1⟩
      have p0 := hE1.cell p0
      have p1 := hE1.cell p1
      have p2 := hE1.cell p2
      have e1 := hX.trans hE1
      clear hE1
      go_wp2_with fail
      refine (hft.out _ e1).mono ?_
      rintro e X2 ⟨rfl, hE2⟩
      have p0 := hE2.cell p0
      have p1 := hE2.cell p1
      have p2 := hE2.cell p2
      have e2 := e1.trans hE2
      clear hE2
      go_wp2_with fail
      go_loopw [4, 5] (fun rv9 iv wr => ∃ i : Nat, i ≤ L.length ∧ iv = .int .i64 i ∧ rv9 = .bool false ∧ Ext X2 wr) (fun _ iv _ => L.length - (intOf iv).toNat)
      case atStart => exact ⟨0, by omega, by go_num, rfl, Ext.refl _⟩
      case round =>
        obtain ⟨i, hi, rfl, rfl, hE⟩ := hrel
        generalize wr = Y at *
        replace p0 := hE.cell p0
        replace p1 := hE.cell p1
        replace p2 := hE.cell p2
        replace e2 := e2.trans hE
        by_cases hlt : i < L.length
        · have hii : (i : Int) < (L.length : Int) := by omega
          obtain rfl := HS.out.addr (by rw [HV.out]; omega)
          obtain ⟨sr, br, or, cr, hrow, hrc, hSr⟩ := MatR.row HS.out HV.out HR.out hlt
          have hrY := e2.cell hrow
          have hsm := Lib.hid (small20_any (w := Y) (⟨_, _, _, _, rfl, hrc, hSr.ext e2⟩ : RowR Y (.slice sr (List.length L[i]) cr) L[i]) (Hrb.out _ (List.getElem_mem hlt)))
          generalize L[i].length = nr at *
          clear hSr hrow hrc
          go_wp2_with fail
          refine hsm.out.mono ?_
          rintro e W ⟨⟨bb, rfl, _⟩, hE2⟩
          cases bb
          · go_wp2_with fail
            go_ret
            exact ⟨rfl, e2.trans hE2⟩
          · go_wp2_with fail
            go_roundw
            case rel => exact ⟨i + 1, by omega, by go_num, rfl, hE.trans hE2⟩
            case measure => simp [intOf] <;> omega
        · obtain rfl : i = L.length := by omega
          clear hE hlt hi
          go_wp2_with fail
          refine (hmk.out _ e2).mono ?_
          rintro e X3 ⟨t, C, M, rfl, ht, hE3⟩
          have e3 := e2.trans hE3
          generalize prL b = P at *
          obtain ⟨sp, cp, sc, lc, cc, sm, lm, cm, rfl, hT⟩ := ht.open
          have hml : lm = M.length := by obtain ⟨_, _, _, _, _, e, _⟩ := hT.hM; injection e
          subst hml
          have hp0 := hT.ok.p0
          have hp4 := hT.ok.p4
          have ea := (Ext.refl X3).alloc (.cells #[.slice sp P.length cp, .slice sc lc cc, .slice sm M.length cm] 34)
          have e4 := e3.alloc (.cells #[.slice sp P.length cp, .slice sc lc cc, .slice sm M.length cm] 34)
          have t0 : (X3.alloc (.cells #[.slice sp P.length cp, .slice sc lc cc, .slice sm M.length cm] 34)).cell? ⟨X3.heap.size, 0, none⟩ = some (.slice sp P.length cp) := by go_simp
          have t1 : (X3.alloc (.cells #[.slice sp P.length cp, .slice sc lc cc, .slice sm M.length cm] 34)).cell? ⟨X3.heap.size, 1, none⟩ = some (.slice sc lc cc) := by go_simp
          have t2 : (X3.alloc (.cells #[.slice sp P.length cp, .slice sc lc cc, .slice sm M.length cm] 34)).cell? ⟨X3.heap.size, 2, none⟩ = some (.slice sm M.length cm) := by go_simp
          have HT4 := Lib.hid (hT.ext ea)
          have hof := Lib.hid (fun W (hW : Ext (X3.alloc (.cells #[.slice sp P.length cp, .slice sc lc cc, .slice sm M.length cm] 34)) W) => gOf_any (HT4.out.ext hW) (HL.out.ext (e4.trans hW)))
          have hsp := Lib.hid (fun W (hW : Ext (X3.alloc (.cells #[.slice sp P.length cp, .slice sc lc cc, .slice sm M.length cm] 34)) W) => gSpan_any (HT4.out.ext hW) (Hl.out.ext (e4.trans hW)) (HL.out.ext (e4.trans hW)) (by omega))
          have h2w := Lib.hid (fun W (hW : Ext (X3.alloc (.cells #[.slice sp P.length cp, .slice sc lc cc, .slice sm M.length cm] 34)) W) => two20_any (HT4.out.ext hW))
          have hin := Lib.hid (fun W s c x (hW : Ext (X3.alloc (.cells #[.slice sp P.length cp, .slice sc lc cc, .slice sm M.length cm] 34)) W) (hx : RowR W (.slice s (List.length x) c) x) => interval20_any (HT4.out.ext hW) hx)
          have hte := Lib.hid (fun W s c x (hW : Ext (X3.alloc (.cells #[.slice sp P.length cp, .slice sc lc cc, .slice sm M.length cm] 34)) W) (hx : RowR W (.slice s (List.length x) c) x) => Temper_any (HT4.out.ext hW) hx (HL.out.ext (e4.trans hW)))
          have hst := Lib.hid (fun W s c x (hW : Ext (X3.alloc (.cells #[.slice sp P.length cp, .slice sc lc cc, .slice sm M.length cm] 34)) W) (hx : RowR W (.slice s (List.length x) c) x) => gSteps_any (HT4.out.ext hW) hx (HL.out.ext (e4.trans hW)))
          clear ht hE3 hmk hft p0 p1 p2 e1 e2 hX
          by_cases htw : twE M = 0
          · skip
            have hM2 : M.length = 2 := by
              unfold twE at htw
              split at htw
              · assumption
              · cases htw
            obtain ⟨psM, hIM⟩ := hT.ok.kM.1
            obtain ⟨sm', gm, om, cm', vsm, em, hmc, hvm, hSm, hrm⟩ := hT.hM
            injection em with q4 q5 q6
            subst q4 q6
            obtain ⟨s0, b0, o0, c0, hrow0, hrc0, hS0⟩ := MatR.row hSm hvm hrm (show 0 < M.length by omega)
            obtain ⟨s1, b1, o1, c1, hrow1, hrc1, hS1⟩ := MatR.row hSm hvm hrm (show 1 < M.length by omega)
            obtain rfl := hSm.addr (by omega)
            have hr0 : M[0].length = P.length := hIM.rect _ (List.getElem_mem _)
            have hr1 : M[1].length = P.length := hIM.rect _ (List.getElem_mem _)
            obtain ⟨zz, hzz⟩ : ∃ z, z = eM M 0 0 := ⟨_, rfl⟩
            have hcz : X3.cell? ⟨b0, o0, none⟩ = some (.int .i64 zz) := by
              have := hS0.cell 0 (.int .i64 zz) (by
                rw [hzz]; unfold eM
                rw [getD_get (show 0 < M.length by omega), getD_get (show 0 < M[0].length by omega)]
                exact is_get (by omega))
              simpa using this
            obtain rfl := hS0.addr (by simp; omega)
            obtain rfl := hS1.addr (by simp; omega)
            have HR0 := Lib.hid (show RowR X3 (.slice (some ⟨b0, o0, none⟩) M[0].length c0) (M.getD 0 []) from by rw [getD_get (show 0 < M.length by omega)]; exact ⟨_, _, _, _, rfl, hrc0, hS0⟩)
            have HR1 := Lib.hid (show RowR X3 (.slice (some ⟨b1, o1, none⟩) M[1].length c1) (M.getD 1 []) from by rw [getD_get (show 1 < M.length by omega)]; exact ⟨_, _, _, _, rfl, hrc1, hS1⟩)
            have hl0 : (M.getD 0 []).length ≤ 1000000 := by rw [getD_get (show 0 < M.length by omega)]; omega
            have hl1 : (M.getD 1 []).length ≤ 1000000 := by rw [getD_get (show 1 < M.length by omega)]; omega
            have Hl0 := Lib.hid hl0
            have Hl1 := Lib.hid hl1
            rw [hr0] at hrow0 hrc0 HR0
            rw [hr1] at hrow1 hrc1 HR1
            rw [Nat.add_zero] at hrow0
            replace hrow0 := ea.cell hrow0
            replace hrow1 := ea.cell hrow1
            replace hcz := ea.cell hcz
            replace HR0 := Lib.hid (HR0.out.ext ea)
            replace HR1 := Lib.hid (HR1.out.ext ea)
            have Htw := Lib.hid htw
            have HM2 := Lib.hid hM2
            have hpI : (0 : Int) < (P.length : Int) := by omega
            have hmI : (0 : Int) < (M.length : Int) := by omega
            have hmI1 : (1 : Int) < (M.length : Int) := by omega
            have Hzz := Lib.hid hzz
            clear hT hIM hSm hrm hvm hS0 hS1 hr0 hr1 q5 hmc htw hzz hl0 hl1 hM2
            have HeA : Hid (Ext w (X3.alloc (.cells #[.slice sp P.length cp, .slice sc lc cc, .slice (some ⟨gm, om, none⟩) M.length cm] 34))) := Lib.hid e4
            go_wp2_with fail
            refine (hof.out _ (Ext.refl _)).mono ?_
            intro e Y1 hof1
            obtain ⟨hF1, s9, n9, c9, s8, n8, c8, rfl, hRa, hRb⟩ := of_open hof1 Htw.out Hzz.out
            clear hof1
            have HRa := Lib.hid hRa
            have HRb := Lib.hid hRb
            clear hRa hRb
            have fa := (Ext.refl Y1).alloc (.cells #[.int .i64 zz, .slice s9 n9 c9, .slice s8 n8 c8] 37)
            have f0 : (Y1.alloc (.cells #[.int .i64 zz, .slice s9 n9 c9, .slice s8 n8 c8] 37)).cell? ⟨Y1.heap.size, 0, none⟩ = some (.int .i64 zz) := by go_simp
            have f1 : (Y1.alloc (.cells #[.int .i64 zz, .slice s9 n9 c9, .slice s8 n8 c8] 37)).cell? ⟨Y1.heap.size, 1, none⟩ = some (.slice s9 n9 c9) := by go_simp
            have f2 : (Y1.alloc (.cells #[.int .i64 zz, .slice s9 n9 c9, .slice s8 n8 c8] 37)).cell? ⟨Y1.heap.size, 2, none⟩ = some (.slice s8 n8 c8) := by go_simp
            have g1 := hF1.trans fa
            replace t0 := g1.cell t0
            replace t1 := g1.cell t1
            replace t2 := g1.cell t2
            go_wp2_with fail
            refine (hsp.out _ g1).mono ?_
            intro e Y2 hsp2
            obtain ⟨hF2, lo, hi, g, rfl, hSF⟩ := sp_open hsp2 Htw.out
            have HSF := Lib.hid hSF
            have g2 := g1.trans hF2
            replace t0 := hF2.cell t0
            replace t1 := hF2.cell t1
            replace t2 := hF2.cell t2
            replace f0 := hF2.cell f0
            replace f1 := hF2.cell f1
            replace f2 := hF2.cell f2
            clear hsp2 hSF
            go_wp2_with fail
            refine (h2w.out _ g2).mono ?_
            rintro e Y3 ⟨rfl, hF3⟩
            rw [Htw.out]
            have g3 := g2.trans hF3
            replace t0 := hF3.cell t0
            replace t1 := hF3.cell t1
            replace t2 := hF3.cell t2
            replace f0 := hF3.cell f0
            replace f1 := hF3.cell f1
            replace f2 := hF3.cell f2
            replace hrow0 := g3.cell hrow0
            replace hrow1 := g3.cell hrow1
            replace hcz := g3.cell hcz
            replace HRa := Lib.hid (((HRa.out.ext fa).ext hF2).ext hF3)
            replace HRb := Lib.hid (((HRb.out.ext fa).ext hF2).ext hF3)
            replace HR0 := Lib.hid (HR0.out.ext g3)
            replace HR1 := Lib.hid (HR1.out.ext g3)
            clear hF1 hF2 hF3 g1 g2 fa e3 ea
            generalize X3.alloc (.cells #[.slice sp P.length cp, .slice sc lc cc, .slice (some ⟨gm, om, none⟩) M.length cm] 34) = X4 at *
            generalize X3.heap.size = bt at *
            generalize Y1.heap.size = bf at *
            rw [HM2.out] at t2
            go_wp2_with fail
            have dd : Ext Y3 Y3.drew := (Ext.refl Y3).drew
            refine wp_region_held_tail (S := fun W => Ext Y3 W) 36 (by kernel_rfl) (by simp) ?_
            intro inv
            generalize Y3.drew = Y4 at *
            refine wpAnyLH_take (i := 0) (v := .int .i64 0) rfl (by kernel_rfl) (fun _ _ _ h => h) (.inl ⟨by rfl, fun W hW => by go_simp⟩) dd inv ?_
            intro inv
            go_simp
            refine wpAnyLH_take (i := 1) (v := .bool true) rfl (by kernel_rfl) (fun _ _ _ h => h) (.inl ⟨by rfl, fun W hW => by go_simp⟩) dd inv ?_
            intro inv
            go_simp
            refine wpAnyLH_take (i := 2) (v := .bool true) rfl (by kernel_rfl) (fun _ _ _ h => h) (.inl ⟨by rfl, fun W hW => by go_simp⟩) dd inv ?_
            intro inv
            go_simp
            refine wpAnyLH_take (i := 3) (v := .pointer (some ⟨bf, 0, none⟩)) rfl (by kernel_rfl) (fun _ _ _ h => h) (.inl ⟨by rfl, fun W hW => by go_simp⟩) dd inv ?_
            intro inv
            go_simp
            refine wpAnyLH_take (i := 4) (v := .int .i64 zz) rfl (by kernel_rfl) (fun _ _ _ h => h) (.inl ⟨by rfl, fun W hW => by have q0 := hW.cell f0; go_simp⟩) dd inv ?_
            intro inv
            go_simp
            refine wpAnyLH_take (i := 5) (v := .pointer (some ⟨bt, 2, none⟩)) rfl (by kernel_rfl) (fun _ _ _ h => h) (.inl ⟨by rfl, fun W hW => by go_simp⟩) dd inv ?_
            intro inv
            go_simp
            refine wpAnyLH_take (i := 6) (v := .slice (some ⟨gm, om, none⟩) 2 cm) rfl (by kernel_rfl) (fun _ _ _ h => h) (.inl ⟨by rfl, fun W hW => by have q0 := hW.cell t2; go_simp⟩) dd inv ?_
            intro inv
            go_simp
            refine wpAnyLH_take (i := 7) (v := .pointer (some ⟨gm, om, none⟩)) rfl (by kernel_rfl) (fun _ _ _ h => h) (.inl ⟨by rfl, fun W hW => by go_simp⟩) dd inv ?_
            intro inv
            go_simp
            refine wpAnyLH_take (i := 8) (v := .slice (some ⟨b0, o0, none⟩) P.length c0) rfl (by kernel_rfl) (fun _ _ _ h => h) (.inl ⟨by rfl, fun W hW => by have q0 := hW.cell hrow0; go_simp⟩) dd inv ?_
            intro inv
            go_simp
            refine wpAnyLH_take (i := 9) (v := .pointer (some ⟨b0, o0, none⟩)) rfl (by kernel_rfl) (fun _ _ _ h => h) (.inl ⟨by rfl, fun W hW => by go_simp⟩) dd inv ?_
            intro inv
            go_simp
            refine wpAnyLH_take (i := 10) (v := .int .i64 zz) rfl (by kernel_rfl) (fun _ _ _ h => h) (.inl ⟨by rfl, fun W hW => by have q0 := hW.cell hcz; go_simp⟩) dd inv ?_
            intro inv
            go_simp
            refine wpAnyLH_take (i := 11) (v := .bool false) rfl (by kernel_rfl) (fun _ _ _ h => h) (.inl ⟨by rfl, fun W hW => by go_simp⟩) dd inv ?_
            intro inv
            go_simp
            refine wpAnyLH_take (i := 12) (v := .bool false) rfl (by kernel_rfl) (fun _ _ _ h => h) (.inl ⟨by rfl, fun W hW => by go_simp⟩) dd inv ?_
            intro inv
            go_simp
            refine wpAnyLH_take (i := 13) (v := .pointer (some ⟨bf, 1, none⟩)) rfl (by kernel_rfl) (fun _ _ _ h => h) (.inl ⟨by rfl, fun W hW => by go_simp⟩) dd inv ?_
            intro inv
            go_simp
            refine wpAnyLH_take (i := 14) (v := .slice s9 n9 c9) rfl (by kernel_rfl) (fun _ _ _ h => h) (.inl ⟨by rfl, fun W hW => by have q0 := hW.cell f1; go_simp⟩) dd inv ?_
            intro inv
            go_simp
            refine wpAnyLH_take (i := 15) (v := .pointer (some ⟨bt, 2, none⟩)) rfl (by kernel_rfl) (fun _ _ _ h => h) (.inl ⟨by rfl, fun W hW => by go_simp⟩) dd inv ?_
            intro inv
            go_simp
            refine wpAnyLH_take (i := 16) (v := .slice (some ⟨gm, om, none⟩) 2 cm) rfl (by kernel_rfl) (fun _ _ _ h => h) (.inl ⟨by rfl, fun W hW => by have q0 := hW.cell t2; go_simp⟩) dd inv ?_
            intro inv
            go_simp
            refine wpAnyLH_take (i := 17) (v := .pointer (some ⟨gm, om, none⟩)) rfl (by kernel_rfl) (fun _ _ _ h => h) (.inl ⟨by rfl, fun W hW => by go_simp⟩) dd inv ?_
            intro inv
            go_simp
            refine wpAnyLH_take (i := 18) (v := .slice (some ⟨b0, o0, none⟩) P.length c0) rfl (by kernel_rfl) (fun _ _ _ h => h) (.inl ⟨by rfl, fun W hW => by have q0 := hW.cell hrow0; go_simp⟩) dd inv ?_
            intro inv
            go_simp
            refine wpAnyLH_oneI (i := 19) rfl (by kernel_rfl) inv (fun inv K0 hK0 => ?_)
            go_simp
            refine (same_yes (HRa.out.ext dd) (HR0.out.ext dd) Hl0.out rfl).mono ?_
            rintro e Y5 ⟨rfl, hF5⟩
            have d5 := dd.trans hF5
            refine hK0 _ _ d5 ?_
            clear hK0
            refine wpAnyLH_take (i := 20) (v := .bool false) rfl (by kernel_rfl) (fun _ _ _ h => h) (.inl ⟨by rfl, fun W hW => by go_simp⟩) d5 inv ?_
            intro inv
            go_simp
            refine wpAnyLH_take (i := 21) (v := .bool false) rfl (by kernel_rfl) (fun _ _ _ h => h) (.inl ⟨by rfl, fun W hW => by go_simp⟩) d5 inv ?_
            intro inv
            go_simp
            refine wpAnyLH_take (i := 22) (v := .bool false) rfl (by kernel_rfl) (fun _ _ _ h => h) (.inl ⟨by rfl, fun W hW => by go_simp⟩) d5 inv ?_
            intro inv
            go_simp
            refine wpAnyLH_take (i := 23) (v := .pointer (some ⟨bf, 2, none⟩)) rfl (by kernel_rfl) (fun _ _ _ h => h) (.inl ⟨by rfl, fun W hW => by go_simp⟩) d5 inv ?_
            intro inv
            go_simp
            refine wpAnyLH_take (i := 24) (v := .slice s8 n8 c8) rfl (by kernel_rfl) (fun _ _ _ h => h) (.inl ⟨by rfl, fun W hW => by have q0 := hW.cell f2; go_simp⟩) d5 inv ?_
            intro inv
            go_simp
            refine wpAnyLH_take (i := 25) (v := .pointer (some ⟨bt, 2, none⟩)) rfl (by kernel_rfl) (fun _ _ _ h => h) (.inl ⟨by rfl, fun W hW => by go_simp⟩) d5 inv ?_
            intro inv
            go_simp
            refine wpAnyLH_take (i := 26) (v := .slice (some ⟨gm, om, none⟩) 2 cm) rfl (by kernel_rfl) (fun _ _ _ h => h) (.inl ⟨by rfl, fun W hW => by have q0 := hW.cell t2; go_simp⟩) d5 inv ?_
            intro inv
            go_simp
            refine wpAnyLH_take (i := 27) (v := .pointer (some ⟨gm, om + 1, none⟩)) rfl (by kernel_rfl) (fun _ _ _ h => h) (.inl ⟨by rfl, fun W hW => by go_simp⟩) d5 inv ?_
            intro inv
            go_simp
            refine wpAnyLH_take (i := 28) (v := .slice (some ⟨b1, o1, none⟩) P.length c1) rfl (by kernel_rfl) (fun _ _ _ h => h) (.inl ⟨by rfl, fun W hW => by have q0 := hW.cell hrow1; go_simp⟩) d5 inv ?_
            intro inv
            go_simp
            refine wpAnyLH_oneI (i := 29) rfl (by kernel_rfl) inv (fun inv K0 hK0 => ?_)
            go_simp
            refine (same_yes (HRb.out.ext d5) (HR1.out.ext d5) Hl1.out rfl).mono ?_
            rintro e Y6 ⟨rfl, hF6⟩
            have d6 := d5.trans hF6
            refine hK0 _ _ d6 ?_
            clear hK0
            refine wpAnyLH_take (i := 30) (v := .bool false) rfl (by kernel_rfl) (fun _ _ _ h => h) (.inl ⟨by rfl, fun W hW => by go_simp⟩) d6 inv ?_
            intro inv
            go_simp
            refine wpAnyLH_take (i := 31) (v := .bool false) rfl (by kernel_rfl) (fun _ _ _ h => h) (.inl ⟨by rfl, fun W hW => by go_simp⟩) d6 inv ?_
            intro inv
            go_simp
            refine wpAnyLH_take (i := 32) (v := .bool false) rfl (by kernel_rfl) (fun _ _ _ h => h) (.inl ⟨by rfl, fun W hW => by go_simp⟩) d6 inv ?_
            intro inv
            go_simp
            refine wpAnyLH_take (i := 33) (v := .int .i64 0) rfl (by kernel_rfl) (fun _ _ _ h => h) (.inl ⟨by rfl, fun W hW => by go_simp⟩) d6 inv ?_
            intro inv
            go_simp
            refine wpAnyLH_take (i := 34) (v := .bool false) rfl (by kernel_rfl) (fun _ _ _ h => h) (.inl ⟨by rfl, fun W hW => by go_simp⟩) d6 inv ?_
            intro inv
            go_simp
            refine wpAnyLH_take (i := 35) (v := .bool false) rfl (by kernel_rfl) (fun _ _ _ h => h) (.inl ⟨by rfl, fun W hW => by go_simp⟩) d6 inv ?_
            intro inv
            go_simp
            refine wpAnyLH_end (by kernel_rfl) ?_
            have g6 := g3.trans d6
            replace t0 := d6.cell t0
            replace t1 := d6.cell t1
            replace t2 := d6.cell t2
            clear f0 f1 f2 hrow0 hrow1 hcz HRa HRb HR0 HR1 inv d5 dd hF5 hF6 g3 d6 hof hsp h2w
            go_wp2_with fail
            go_loopw [12, 15] (fun wv iv wr => ∃ i : Nat, i ≤ L.length ∧ iv = .int .i64 i ∧ ((wv = .int .i64 0 ∧ Hid (∀ j (h : j < L.length), j < i → bgE P.length L[j] = 0)) ∨ (∃ y, wv = .int .i64 y ∧ y ≠ 0 ∧ Hid (fbE P.length L = y))) ∧ Ext Y6 wr) (fun _ iv _ => L.length - (intOf iv).toNat)
            case atStart => exact ⟨0, by omega, by go_num, .inl ⟨rfl, Lib.hid (fun j _ h => by omega)⟩, Ext.refl _⟩
            case round =>
              obtain ⟨i, hi, rfl, hwv, hE⟩ := hrel
              generalize wr = U at *
              replace t0 := hE.cell t0
              replace t1 := hE.cell t1
              replace t2 := hE.cell t2
              replace g6 := g6.trans hE
              rcases hwv with ⟨rfl, HK⟩ | ⟨y, rfl, hy0, Hfb⟩
              · by_cases hlt : i < L.length
                · skip
                  have hii : (i : Int) < (L.length : Int) := by omega
                  obtain rfl := HS.out.addr (by rw [HV.out]; omega)
                  obtain ⟨sr, br, or, cr, hrow, hrc, hSr⟩ := MatR.row HS.out HV.out HR.out hlt
                  have eU := HeA.out.trans g6
                  have hrU := eU.cell hrow
                  have HRi := Lib.hid (show RowR U (.slice sr (List.length L[i]) cr) L[i] from ⟨_, _, _, _, rfl, hrc, hSr.ext eU⟩)
                  obtain ⟨y, hy⟩ : ∃ y, y = bgE P.length L[i] := ⟨_, rfl⟩
                  have hq := Lib.hid (fun W (hW : Ext U W) => hin.out W sr cr L[i] (g6.trans hW) (HRi.out.ext hW))
                  rw [← hy, HM2.out] at hq
                  have Hy := Lib.hid hy
                  have hnx : Hid ((y = 0 ∧ ∀ j (h : j < L.length), j < i + 1 → bgE P.length L[j] = 0) ∨ (y ≠ 0 ∧ fbE P.length L = y)) := Lib.hid (by
                    by_cases h0 : y = 0
                    · refine .inl ⟨h0, fun j hj hji => ?_⟩
                      by_cases ej : j = i
                      · subst ej; rw [← Hy.out]; exact h0
                      · exact HK.out j hj (by omega)
                    · exact .inr ⟨h0, by rw [Hy.out] at h0 ⊢; exact fbE_at hlt HK.out h0⟩)
                  generalize L[i].length = nr at *
                  clear hy HK hSr hrow hrc Hy HRi eU
                  go_wp2_with fail
                  have dd : Ext U U.drew := (Ext.refl U).drew
                  refine wp_region_held_tail (S := fun W => Ext U W) 6 (by kernel_rfl) (by simp) ?_
                  intro inv
                  generalize U.drew = U1 at *
                  refine wpAnyLH_take (i := 0) (v := tmS P sp cp sc lc cc (some ⟨gm, om, none⟩) 2 cm) rfl (by kernel_rfl) (fun _ _ _ h => h) (.inl ⟨by rfl, fun W hW => by have q0 := hW.cell t0; have q1 := hW.cell t1; have q2 := hW.cell t2; go_simp⟩) dd inv ?_
                  intro inv
                  go_simp
                  refine wpAnyLH_take (i := 1) (v := .slice (some ⟨gl, ol, none⟩) L.length cl) rfl (by kernel_rfl) (fun _ _ _ h => h) (.inl ⟨by rfl, fun W hW => by go_simp⟩) dd inv ?_
                  intro inv
                  go_simp
                  refine wpAnyLH_take (i := 2) (v := .int .i64 i) rfl (by kernel_rfl) (fun _ _ _ h => h) (.inl ⟨by rfl, fun W hW => by go_simp⟩) dd inv ?_
                  intro inv
                  go_simp
                  refine wpAnyLH_take (i := 3) (v := .pointer (some ⟨gl, ol + i, none⟩)) rfl (by kernel_rfl) (fun _ _ _ h => h) (.inl ⟨by rfl, fun W hW => by go_simp⟩) dd inv ?_
                  intro inv
                  go_simp
                  refine wpAnyLH_take (i := 4) (v := .slice sr nr cr) rfl (by kernel_rfl) (fun _ _ _ h => h) (.inl ⟨by rfl, fun W hW => by have q0 := hW.cell hrU; go_simp⟩) dd inv ?_
                  intro inv
                  go_simp
                  refine wpAnyLH_oneI (i := 5) rfl (by kernel_rfl) inv (fun inv K0 hK0 => ?_)
                  go_simp
                  refine (hq.out _ dd).mono ?_
                  rintro e U2 ⟨rfl, hG⟩
                  have d2 := dd.trans hG
                  refine hK0 _ _ d2 ?_
                  clear hK0
                  refine wpAnyLH_end (by kernel_rfl) ?_
                  have hE2 := hE.trans d2
                  clear hq inv hG dd d2
                  go_wp2_with fail
                  go_roundw
                  case rel =>
                    refine ⟨i + 1, by omega, by go_num, ?_, hE2⟩
                    rcases hnx.out with ⟨h0, h1⟩ | ⟨h0, h1⟩
                    · exact .inl ⟨by rw [h0], Lib.hid h1⟩
                    · exact .inr ⟨y, rfl, h0, Lib.hid h1⟩
                  case measure => simp [intOf] <;> omega
                · obtain rfl : i = L.length := by omega
                  have Hfb := Lib.hid (fbE_none (n := P.length) (L := L) (fun j h => HK.out j h h))
                  have Hbg := Lib.hid (fun j (h : j < L.length) => HK.out j h h)
                  clear hE HK hlt hi
                  go_wp2_with fail
                  go_loopw [4, 13, 14, 16, 17, 18, 19, 20] (fun rv9 lst mst iv zv hv nv kv wr => ∃ i : Nat, i ≤ L.length ∧ iv = .int .i64 i ∧ rv9 = .bool false ∧ lst = .int .i64 (mnG M L i) ∧ mst = .int .i64 (mxG M L i) ∧ Hid (∀ j (h : j < L.length), j < i → smallB (tmpL M L[j]) = true) ∧ Ext U wr) (fun _ _ _ iv _ _ _ _ _ => L.length - (intOf iv).toNat)
                  case atStart => exact ⟨0, by omega, by go_num, rfl, rfl, rfl, Lib.hid (fun j _ h => by omega), Ext.refl _⟩
                  case round =>
                    obtain ⟨i, hi, rfl, rfl, rfl, rfl, HK, hE⟩ := hrel
                    generalize wr = V at *
                    replace t0 := hE.cell t0
                    replace t1 := hE.cell t1
                    replace t2 := hE.cell t2
                    replace g6 := g6.trans hE
                    by_cases hlt : i < L.length
                    · skip
                      have hii : (i : Int) < (L.length : Int) := by omega
                      obtain rfl := HS.out.addr (by rw [HV.out]; omega)
                      obtain ⟨sr, br, or, cr, hrow, hrc, hSr⟩ := MatR.row HS.out HV.out HR.out hlt
                      have eV := HeA.out.trans g6
                      have hrV := eV.cell hrow
                      have HRi := Lib.hid (show RowR V (.slice sr (List.length L[i]) cr) L[i] from ⟨_, _, _, _, rfl, hrc, hSr.ext eV⟩)
                      have hqt := Lib.hid (fun W (hW : Ext V W) => hte.out W sr cr L[i] (g6.trans hW) (HRi.out.ext hW))
                      have hqs := Lib.hid (fun W (hW : Ext V W) => hst.out W sr cr L[i] (g6.trans hW) (HRi.out.ext hW))
                      rw [HM2.out] at hqt hqs
                      have Hb := Lib.hid (Hbg.out i hlt)
                      have Hgs := Lib.hid (show gst M L i = (tmpL M L[i]).getD 1 0 by unfold gst; rw [getD_get hlt])
                      have Htl := Lib.hid (show (tmpL M L[i]).length = 2 by unfold tmpL; rw [List.length_map, HM2.out])
                      have Hmn := Lib.hid (show mnG M L (i + 1) = min (if i = 0 then gst M L i else mnG M L i) (gst M L i) from rfl)
                      have Hmx := Lib.hid (show mxG M L (i + 1) = max (if i = 0 then gst M L i else mxG M L i) (gst M L i) from rfl)
                      have Hno := Lib.hid (fun (h : smallB (tmpL M L[i]) = false) => HSF.out.li Hfb.out (by omega) (allS_no hlt h))
                      have HK1 := Lib.hid (fun (h : smallB (tmpL M L[i]) = true) j (hj : j < L.length) (hji : j < i + 1) => show smallB (tmpL M L[j]) = true from by
                        by_cases ej : j = i
                        · subst ej; exact h
                        · exact HK.out j hj (by omega))
                      rw [Hgs.out] at Hmn Hmx
                      generalize hx : tmpL M L[i] = x at *
                      have Hx := Lib.hid hx
                      generalize L[i].length = nr at *
                      generalize mnG M L i = lst at *
                      generalize mxG M L i = mst at *
                      clear hx HK hSr hrow hrc HRi eV hin Hgs
                      go_wp2_with fail
                      have dd : Ext V V.drew := (Ext.refl V).drew
                      refine wp_region_held_tail (S := fun W => Ext V W) 10 (by kernel_rfl) (by simp) ?_
                      intro inv
                      generalize V.drew = V1 at *
                      refine wpAnyLH_take (i := 0) (v := tmS P sp cp sc lc cc (some ⟨gm, om, none⟩) 2 cm) rfl (by kernel_rfl) (fun _ _ _ h => h) (.inl ⟨by rfl, fun W hW => by have q0 := hW.cell t0; have q1 := hW.cell t1; have q2 := hW.cell t2; go_simp⟩) dd inv ?_
                      intro inv
                      go_simp
                      refine wpAnyLH_take (i := 1) (v := .slice (some ⟨gl, ol, none⟩) L.length cl) rfl (by kernel_rfl) (fun _ _ _ h => h) (.inl ⟨by rfl, fun W hW => by go_simp⟩) dd inv ?_
                      intro inv
                      go_simp
                      refine wpAnyLH_take (i := 2) (v := .int .i64 i) rfl (by kernel_rfl) (fun _ _ _ h => h) (.inl ⟨by rfl, fun W hW => by go_simp⟩) dd inv ?_
                      intro inv
                      go_simp
                      refine wpAnyLH_take (i := 3) (v := .pointer (some ⟨gl, ol + i, none⟩)) rfl (by kernel_rfl) (fun _ _ _ h => h) (.inl ⟨by rfl, fun W hW => by go_simp⟩) dd inv ?_
                      intro inv
                      go_simp
                      refine wpAnyLH_take (i := 4) (v := .slice sr nr cr) rfl (by kernel_rfl) (fun _ _ _ h => h) (.inl ⟨by rfl, fun W hW => by have q0 := hW.cell hrV; go_simp⟩) dd inv ?_
                      intro inv
                      go_simp
                      refine wpAnyLH_oneI (i := 5) rfl (by kernel_rfl) inv (fun inv K0 hK0 => ?_)
                      go_simp
                      refine (hqt.out _ dd).mono ?_
                      rintro e V2 ⟨hG, (⟨_, hs, v, rfl, hv⟩ | ⟨_, hs, rfl⟩ | ⟨q, _⟩)⟩
                      · rw [Hx.out] at hs hv
                        obtain ⟨sz, gz, oz, cz, rfl, hcz2, hSz⟩ := hv.row
                        obtain rfl := hSz.addr (by simp; rw [Htl.out]; omega)
                        rw [Htl.out]
                        have Hzr := Lib.hid (hSz.cell 1 _ (is_get (by rw [Htl.out]; omega)))
                        clear hv hcz2 hSz
                        have d2 := dd.trans hG
                        refine hK0 _ _ d2 ?_
                        clear hK0
                        refine wpAnyLH_take (i := 6) (v := .tuple #[.slice (some ⟨gz, oz, none⟩) 2 cz, .int .i64 0]) rfl (by kernel_rfl) (fun _ _ _ h => h) (.inl ⟨by rfl, fun W hW => by go_simp⟩) d2 inv ?_
                        intro inv
                        go_simp
                        refine wpAnyLH_take (i := 7) (v := .slice (some ⟨gz, oz, none⟩) 2 cz) rfl (by kernel_rfl) (fun _ _ _ h => h) (.inl ⟨by rfl, fun W hW => by go_simp⟩) d2 inv ?_
                        intro inv
                        go_simp
                        refine wpAnyLH_take (i := 8) (v := .int .i64 0) rfl (by kernel_rfl) (fun _ _ _ h => h) (.inl ⟨by rfl, fun W hW => by go_simp⟩) d2 inv ?_
                        intro inv
                        go_simp
                        refine wpAnyLH_oneI (i := 9) rfl (by kernel_rfl) inv (fun inv K1 hK1 => ?_)
                        go_simp
                        refine hK1 _ _ d2 ?_
                        clear hK1
                        refine wpAnyLH_end (by kernel_rfl) ?_
                        clear hqt inv hG dd
                        have u0 := d2.cell t0
                        have u1 := d2.cell t1
                        have u2 := d2.cell t2
                        have hrU := d2.cell hrV
                        go_wp2_with fail
                        have dd := d2.drew
                        refine wp_region_held_tail (S := fun W => Ext V2 W) 10 (by kernel_rfl) (by simp) ?_
                        intro inv
                        have d3 : Ext V2 V2.drew := (Ext.refl V2).drew
                        generalize V2.drew = V3 at *
                        refine wpAnyLH_take (i := 0) (v := tmS P sp cp sc lc cc (some ⟨gm, om, none⟩) 2 cm) rfl (by kernel_rfl) (fun _ _ _ h => h) (.inl ⟨by rfl, fun W hW => by have q0 := hW.cell u0; have q1 := hW.cell u1; have q2 := hW.cell u2; go_simp⟩) d3 inv ?_
                        intro inv
                        go_simp
                        refine wpAnyLH_take (i := 1) (v := .slice (some ⟨gl, ol, none⟩) L.length cl) rfl (by kernel_rfl) (fun _ _ _ h => h) (.inl ⟨by rfl, fun W hW => by go_simp⟩) d3 inv ?_
                        intro inv
                        go_simp
                        refine wpAnyLH_take (i := 2) (v := .int .i64 i) rfl (by kernel_rfl) (fun _ _ _ h => h) (.inl ⟨by rfl, fun W hW => by go_simp⟩) d3 inv ?_
                        intro inv
                        go_simp
                        refine wpAnyLH_take (i := 3) (v := .pointer (some ⟨gl, ol + i, none⟩)) rfl (by kernel_rfl) (fun _ _ _ h => h) (.inl ⟨by rfl, fun W hW => by go_simp⟩) d3 inv ?_
                        intro inv
                        go_simp
                        refine wpAnyLH_take (i := 4) (v := .slice sr nr cr) rfl (by kernel_rfl) (fun _ _ _ h => h) (.inl ⟨by rfl, fun W hW => by have q0 := hW.cell hrU; go_simp⟩) d3 inv ?_
                        intro inv
                        go_simp
                        refine wpAnyLH_oneI (i := 5) rfl (by kernel_rfl) inv (fun inv K0 hK0 => ?_)
                        go_simp
                        refine (hqs.out _ dd).mono ?_
                        rintro e V4 ⟨hG, (⟨q, _⟩ | ⟨_, q, _⟩ | ⟨_, _, hs2, rfl⟩ | ⟨_, _, hs2, he⟩)⟩
                        · exact absurd Htw.out q
                        · exact absurd Hb.out q
                        · rw [Hx.out, hs] at hs2; cases hs2
                        · rw [Hx.out] at he
                          generalize hxn : x.getD 1 0 = nn at *
                          subst he
                          have d4 := d3.trans hG
                          refine hK0 _ _ d4 ?_
                          clear hK0
                          refine wpAnyLH_take (i := 6) (v := .tuple #[.int .i64 nn, .int .i64 0]) rfl (by kernel_rfl) (fun _ _ _ h => h) (.inl ⟨by rfl, fun W hW => by go_simp⟩) d4 inv ?_
                          intro inv
                          go_simp
                          refine wpAnyLH_take (i := 7) (v := .int .i64 nn) rfl (by kernel_rfl) (fun _ _ _ h => h) (.inl ⟨by rfl, fun W hW => by go_simp⟩) d4 inv ?_
                          intro inv
                          go_simp
                          refine wpAnyLH_take (i := 8) (v := .int .i64 0) rfl (by kernel_rfl) (fun _ _ _ h => h) (.inl ⟨by rfl, fun W hW => by go_simp⟩) d4 inv ?_
                          intro inv
                          go_simp
                          refine wpAnyLH_oneI (i := 9) rfl (by kernel_rfl) inv (fun inv K1 hK1 => ?_)
                          go_simp
                          refine hK1 _ _ d4 ?_
                          clear hK1
                          refine wpAnyLH_end (by kernel_rfl) ?_
                          have eV := d2.trans d4
                          clear hqs inv hG
                          have HK1 := Lib.hid (HK1.out hs)
                          have hc1 : V4.cell? ⟨gz, oz + 1, none⟩ = some (.int .i64 nn) := by
                            rw [← hxn, getD_get (show 1 < x.length by rw [Htl.out]; omega)]
                            exact d4.cell Hzr.out
                          clear hxn Hzr
                          have hEE := hE.trans eV
                          by_cases hi0 : i = 0
                          · have hi0I : (i : Int) = 0 := by omega
                            have Hmn := Lib.hid (show mnG M L (i + 1) = nn by rw [Hmn.out, if_pos hi0, Int.min_self])
                            have Hmx := Lib.hid (show mxG M L (i + 1) = nn by rw [Hmx.out, if_pos hi0, Int.max_self])
                            go_wp2_with fail
                            go_roundw
                            case rel => exact ⟨i + 1, by omega, by go_num, rfl, by rw [Hmn.out], by rw [Hmx.out], HK1, hEE⟩
                            case measure => simp [intOf] <;> omega
                          · have hi0I : ¬ (i : Int) = 0 := by omega
                            by_cases hlo : nn < lst
                            · have Hmn := Lib.hid (show mnG M L (i + 1) = nn by rw [Hmn.out, if_neg hi0]; omega)
                              by_cases hhi : mst < nn
                              · have Hmx := Lib.hid (show mxG M L (i + 1) = nn by rw [Hmx.out, if_neg hi0]; omega)
                                go_wp2_with fail
                                go_roundw
                                case rel => exact ⟨i + 1, by omega, by go_num, rfl, by rw [Hmn.out], by rw [Hmx.out], HK1, hEE⟩
                                case measure => simp [intOf] <;> omega
                              · have Hmx := Lib.hid (show mxG M L (i + 1) = mst by rw [Hmx.out, if_neg hi0]; omega)
                                go_wp2_with fail
                                go_roundw
                                case rel => exact ⟨i + 1, by omega, by go_num, rfl, by rw [Hmn.out], by rw [Hmx.out], HK1, hEE⟩
                                case measure => simp [intOf] <;> omega
                            · have Hmn := Lib.hid (show mnG M L (i + 1) = lst by rw [Hmn.out, if_neg hi0]; omega)
                              by_cases hhi : mst < nn
                              · have Hmx := Lib.hid (show mxG M L (i + 1) = nn by rw [Hmx.out, if_neg hi0]; omega)
                                go_wp2_with fail
                                go_roundw
                                case rel => exact ⟨i + 1, by omega, by go_num, rfl, by rw [Hmn.out], by rw [Hmx.out], HK1, hEE⟩
                                case measure => simp [intOf] <;> omega
                              · have Hmx := Lib.hid (show mxG M L (i + 1) = mst by rw [Hmx.out, if_neg hi0]; omega)
                                go_wp2_with fail
                                go_roundw
                                case rel => exact ⟨i + 1, by omega, by go_num, rfl, by rw [Hmn.out], by rw [Hmx.out], HK1, hEE⟩
                                case measure => simp [intOf] <;> omega
                      · rw [Hx.out] at hs
                        have d2 := dd.trans hG
                        refine hK0 _ _ d2 ?_
                        clear hK0
                        refine wpAnyLH_take (i := 6) (v := .tuple #[.slice none 0 0, .int .i64 4]) rfl (by kernel_rfl) (fun _ _ _ h => h) (.inl ⟨by rfl, fun W hW => by go_simp⟩) d2 inv ?_
                        intro inv
                        go_simp
                        refine wpAnyLH_take (i := 7) (v := .slice none 0 0) rfl (by kernel_rfl) (fun _ _ _ h => h) (.inl ⟨by rfl, fun W hW => by go_simp⟩) d2 inv ?_
                        intro inv
                        go_simp
                        refine wpAnyLH_take (i := 8) (v := .int .i64 4) rfl (by kernel_rfl) (fun _ _ _ h => h) (.inl ⟨by rfl, fun W hW => by go_simp⟩) d2 inv ?_
                        intro inv
                        go_simp
                        refine wpAnyLH_oneI (i := 9) rfl (by kernel_rfl) inv (fun inv K1 hK1 => ?_)
                        go_simp
                        refine hK1 _ _ d2 ?_
                        clear hK1
                        refine wpAnyLH_end (by kernel_rfl) ?_
                        clear hqt inv hG dd
                        have u0 := d2.cell t0
                        have u1 := d2.cell t1
                        have u2 := d2.cell t2
                        have hrU := d2.cell hrV
                        go_wp2_with fail
                        have dd := d2.drew
                        refine wp_region_held_tail (S := fun W => Ext V2 W) 10 (by kernel_rfl) (by simp) ?_
                        intro inv
                        have d3 : Ext V2 V2.drew := (Ext.refl V2).drew
                        generalize V2.drew = V3 at *
                        refine wpAnyLH_take (i := 0) (v := tmS P sp cp sc lc cc (some ⟨gm, om, none⟩) 2 cm) rfl (by kernel_rfl) (fun _ _ _ h => h) (.inl ⟨by rfl, fun W hW => by have q0 := hW.cell u0; have q1 := hW.cell u1; have q2 := hW.cell u2; go_simp⟩) d3 inv ?_
                        intro inv
                        go_simp
                        refine wpAnyLH_take (i := 1) (v := .slice (some ⟨gl, ol, none⟩) L.length cl) rfl (by kernel_rfl) (fun _ _ _ h => h) (.inl ⟨by rfl, fun W hW => by go_simp⟩) d3 inv ?_
                        intro inv
                        go_simp
                        refine wpAnyLH_take (i := 2) (v := .int .i64 i) rfl (by kernel_rfl) (fun _ _ _ h => h) (.inl ⟨by rfl, fun W hW => by go_simp⟩) d3 inv ?_
                        intro inv
                        go_simp
                        refine wpAnyLH_take (i := 3) (v := .pointer (some ⟨gl, ol + i, none⟩)) rfl (by kernel_rfl) (fun _ _ _ h => h) (.inl ⟨by rfl, fun W hW => by go_simp⟩) d3 inv ?_
                        intro inv
                        go_simp
                        refine wpAnyLH_take (i := 4) (v := .slice sr nr cr) rfl (by kernel_rfl) (fun _ _ _ h => h) (.inl ⟨by rfl, fun W hW => by have q0 := hW.cell hrU; go_simp⟩) d3 inv ?_
                        intro inv
                        go_simp
                        refine wpAnyLH_oneI (i := 5) rfl (by kernel_rfl) inv (fun inv K0 hK0 => ?_)
                        go_simp
                        refine (hqs.out _ dd).mono ?_
                        rintro e V4 ⟨hG, (⟨q, _⟩ | ⟨_, q, _⟩ | ⟨_, _, hs2, rfl⟩ | ⟨_, _, hs2, he⟩)⟩
                        · exact absurd Htw.out q
                        · exact absurd Hb.out q
                        · skip
                          have d4 := d3.trans hG
                          refine hK0 _ _ d4 ?_
                          clear hK0
                          refine wpAnyLH_take (i := 6) (v := .tuple #[.int .i64 0, .int .i64 4]) rfl (by kernel_rfl) (fun _ _ _ h => h) (.inl ⟨by rfl, fun W hW => by go_simp⟩) d4 inv ?_
                          intro inv
                          go_simp
                          refine wpAnyLH_take (i := 7) (v := .int .i64 0) rfl (by kernel_rfl) (fun _ _ _ h => h) (.inl ⟨by rfl, fun W hW => by go_simp⟩) d4 inv ?_
                          intro inv
                          go_simp
                          refine wpAnyLH_take (i := 8) (v := .int .i64 4) rfl (by kernel_rfl) (fun _ _ _ h => h) (.inl ⟨by rfl, fun W hW => by go_simp⟩) d4 inv ?_
                          intro inv
                          go_simp
                          refine wpAnyLH_oneI (i := 9) rfl (by kernel_rfl) inv (fun inv K1 hK1 => ?_)
                          go_simp
                          refine hK1 _ _ d4 ?_
                          clear hK1
                          refine wpAnyLH_end (by kernel_rfl) ?_
                          have eV := d2.trans d4
                          clear hqs inv hG
                          have hg4 := Hno.out hs
                          subst hg4
                          have eF := (HeA.out.trans g6).trans eV
                          go_wp2_with fail
                          go_ret
                          exact ⟨rfl, eF⟩
                        · rw [Hx.out, hs] at hs2; cases hs2
                      · exact absurd Hb.out q
                    · obtain rfl : i = L.length := by omega
                      have eF := HeA.out.trans g6
                      by_cases hL0 : L.length = 0
                      · have hL0I : (L.length : Int) = 0 := by omega
                        obtain ⟨rfl, rfl, rfl⟩ := HSF.out.em Hfb.out hL0
                        go_wp2_with fail
                        go_ret
                        exact ⟨rfl, eF⟩
                      · have hL0I : ¬ (L.length : Int) = 0 := by omega
                        obtain ⟨h1, h2, rfl⟩ := HSF.out.ok Hfb.out hL0 (allS_yes (fun j hj => HK.out j hj hj))
                        rw [← h1, ← h2]
                        clear h1 h2 HSF HK
                        go_wp2_with fail
                        go_ret
                        exact ⟨rfl, eF⟩
              · have h2y : (y == 0) = false := beq_eq_false_iff_ne.2 hy0
                have h3y : (y != 0) = true := by simp [bne, h2y]
                obtain ⟨rfl, rfl, hgy⟩ := HSF.out.er (by rw [Hfb.out]; exact hy0)
                rw [Hfb.out] at hgy
                subst hgy
                have eF := HeA.out.trans g6
                by_cases hlt : (i : Int) < (L.length : Int)
                · skip
                  go_wp2_with fail
                  go_loopw [4, 13, 14, 16, 17, 18, 19, 20] (fun rv9 lst mst iv zv hv nv kv wr => iv = .int .i64 0 ∧ rv9 = .bool false ∧ lst = .int .i64 0 ∧ mst = .int .i64 0 ∧ U = wr) (fun _ _ _ _ _ _ _ _ _ => 0)
                  case atStart => exact ⟨by go_num, rfl, rfl, rfl, rfl⟩
                  case round =>
                    obtain ⟨rfl, rfl, rfl, rfl, hwr⟩ := hrel
                    subst hwr
                    by_cases hl3 : (0 : Int) < (L.length : Int)
                    · go_wp2_with fail
                      go_ret
                      exact ⟨rfl, eF⟩
                    · exact absurd (show (0 : Int) < (L.length : Int) by omega) hl3
                · skip
                  go_wp2_with fail
                  go_loopw [4, 13, 14, 16, 17, 18, 19, 20] (fun rv9 lst mst iv zv hv nv kv wr => iv = .int .i64 0 ∧ rv9 = .bool false ∧ lst = .int .i64 0 ∧ mst = .int .i64 0 ∧ U = wr) (fun _ _ _ _ _ _ _ _ _ => 0)
                  case atStart => exact ⟨by go_num, rfl, rfl, rfl, rfl⟩
                  case round =>
                    obtain ⟨rfl, rfl, rfl, rfl, hwr⟩ := hrel
                    subst hwr
                    by_cases hl3 : (0 : Int) < (L.length : Int)
                    · go_wp2_with fail
                      go_ret
                      exact ⟨rfl, eF⟩
                    · go_wp2_with fail
                      go_ret
                      exact ⟨rfl, eF⟩
          · skip
            obtain ⟨y, hy⟩ : ∃ y, y = twE M := ⟨_, rfl⟩
            have hy0 : ¬ y = 0 := by rw [hy]; exact htw
            rw [← hy] at h2w
            have h2y : (y == 0) = false := beq_eq_false_iff_ne.2 hy0
            have h3y : (y != 0) = true := by simp [bne, h2y]
            have Hy := Lib.hid hy
            have Hy0 := Lib.hid htw
            have HeA : Hid (Ext w (X3.alloc (.cells #[.slice sp P.length cp, .slice sc lc cc, .slice sm M.length cm] 34))) := Lib.hid e4
            clear hT hy htw
            go_wp2_with fail
            refine (hof.out _ (Ext.refl _)).mono ?_
            rintro e Y1 ⟨hF1, (⟨q, rfl⟩ | ⟨q, _⟩)⟩
            rotate_left
            · exact absurd q Hy0.out
            rw [← Hy.out]
            have fa := (Ext.refl Y1).alloc (.cells #[.int .i64 0, .slice none 0 0, .slice none 0 0] 37)
            have f0 : (Y1.alloc (.cells #[.int .i64 0, .slice none 0 0, .slice none 0 0] 37)).cell? ⟨Y1.heap.size, 0, none⟩ = some (.int .i64 0) := by go_simp
            have f1 : (Y1.alloc (.cells #[.int .i64 0, .slice none 0 0, .slice none 0 0] 37)).cell? ⟨Y1.heap.size, 1, none⟩ = some (.slice none 0 0) := by go_simp
            have f2 : (Y1.alloc (.cells #[.int .i64 0, .slice none 0 0, .slice none 0 0] 37)).cell? ⟨Y1.heap.size, 2, none⟩ = some (.slice none 0 0) := by go_simp
            have g1 := hF1.trans fa
            replace t0 := g1.cell t0
            replace t1 := g1.cell t1
            replace t2 := g1.cell t2
            go_wp2_with fail
            refine (hsp.out _ g1).mono ?_
            rintro e Y2 ⟨hF2, rfl⟩
            rw [if_neg Hy0.out, ← Hy.out]
            have g2 := g1.trans hF2
            replace t0 := hF2.cell t0
            replace t1 := hF2.cell t1
            replace t2 := hF2.cell t2
            replace f0 := hF2.cell f0
            replace f1 := hF2.cell f1
            replace f2 := hF2.cell f2
            go_wp2_with fail
            refine (h2w.out _ g2).mono ?_
            rintro e Y3 ⟨rfl, hF3⟩
            have g3 := g2.trans hF3
            replace t0 := hF3.cell t0
            replace t1 := hF3.cell t1
            replace t2 := hF3.cell t2
            replace f0 := hF3.cell f0
            replace f1 := hF3.cell f1
            replace f2 := hF3.cell f2
            have eF := HeA.out.trans g3
            clear hF1 hF2 hF3 g1 g2 fa e3 ea hof hsp h2w hin hte hst
            go_wp2_with fail
            go_quiet (fail)
            have eF := eF.drewN nq
            go_wp2_with fail
            go_loopw [12, 15] (fun wv iv wr => wv = .int .i64 y ∧ iv = .int .i64 0 ∧ Ext w wr) (fun _ _ _ => 0)
            case atStart => exact ⟨rfl, by go_num, eF⟩
            case round =>
              obtain ⟨rfl, rfl, eF⟩ := hrel
              by_cases hl3 : (0 : Int) < (L.length : Int)
              · skip
                go_wp2_with fail
                go_loopw [4, 13, 14, 16, 17, 18, 19, 20] (fun rv9 lst mst iv zv hv nv kv wr => iv = .int .i64 0 ∧ rv9 = .bool false ∧ lst = .int .i64 0 ∧ mst = .int .i64 0 ∧ Ext w wr) (fun _ _ _ _ _ _ _ _ _ => 0)
                case atStart => exact ⟨by go_num, rfl, rfl, rfl, eF⟩
                case round =>
                  obtain ⟨rfl, rfl, rfl, rfl, eF⟩ := hrel
                  go_wp2_with fail
                  go_ret
                  exact ⟨rfl, eF⟩
              · skip
                go_wp2_with fail
                go_loopw [4, 13, 14, 16, 17, 18, 19, 20] (fun rv9 lst mst iv zv hv nv kv wr => iv = .int .i64 0 ∧ rv9 = .bool false ∧ lst = .int .i64 0 ∧ mst = .int .i64 0 ∧ Ext w wr) (fun _ _ _ _ _ _ _ _ _ => 0)
                case atStart => exact ⟨by go_num, rfl, rfl, rfl, eF⟩
                case round =>
                  obtain ⟨rfl, rfl, rfl, rfl, eF⟩ := hrel
                  go_wp2_with fail
                  go_ret
                  exact ⟨rfl, eF⟩
  · rw [decide_eq_false hz3] at hft
    clear hmk hz3
    go_enter Tryz.func3, Tryz.ntmps3
    go_wp2_with fail
    refine (hkn.out _ hX).mono ?_
    rintro e X ⟨rfl, hE1⟩
    have p0 := hE1.cell p0
    have p1 := hE1.cell p1
    have p2 := hE1.cell p2
    have e1 := hX.trans hE1
    clear hE1
    go_wp2_with fail
    refine (hft.out _ e1).mono ?_
    rintro e X2 ⟨rfl, hE2⟩
    have p0 := hE2.cell p0
    have p1 := hE2.cell p1
    have p2 := hE2.cell p2
    have e2 := e1.trans hE2
    clear hE2
    go_wp2_with fail
    refine (hkn.out _ e2).mono ?_
    rintro e X3 ⟨rfl, hE3⟩
    go_wp2_with fail
    go_ret
    exact ⟨rfl, e2.trans hE3⟩
end Go.Proofs.YtnlajhjoakijmaaGreatDoor
