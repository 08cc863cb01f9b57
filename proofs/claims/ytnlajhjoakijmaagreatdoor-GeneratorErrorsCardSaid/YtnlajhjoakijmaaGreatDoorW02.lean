/- Part 2, beside the shared parts, of the proof of the claim: contracts and plain laws; no condition. -/
import Derived.Test.YtnlajhjoakijmaaGreatDoorV01
import Derived.Test.YtnlajhjoakijmaaGreatDoorV02
import Derived.Test.YtnlajhjoakijmaaGreatDoorV03
import Derived.Test.YtnlajhjoakijmaaGreatDoorV04
import Derived.Test.YtnlajhjoakijmaaGreatDoorV05
import Derived.Test.YtnlajhjoakijmaaGreatDoorV06
import Derived.Test.YtnlajhjoakijmaaGreatDoorV07
import Derived.Test.YtnlajhjoakijmaaGreatDoorV08
import Derived.Test.YtnlajhjoakijmaaGreatDoorV09
import Derived.Test.YtnlajhjoakijmaaGreatDoorV10
import Derived.Test.YtnlajhjoakijmaaGreatDoorV11
import Derived.Test.YtnlajhjoakijmaaGreatDoorV12
import Derived.Test.YtnlajhjoakijmaaGreatDoorV13
import Derived.Test.YtnlajhjoakijmaaGreatDoorV14
import Derived.Test.YtnlajhjoakijmaaGreatDoorV15
import Derived.Test.YtnlajhjoakijmaaGreatDoorV16
import Derived.Test.YtnlajhjoakijmaaGreatDoorV17
import Derived.Test.YtnlajhjoakijmaaGreatDoorV18
import Derived.Test.YtnlajhjoakijmaaGreatDoorV19
import Derived.Test.YtnlajhjoakijmaaGreatDoorV20
import Derived.Test.YtnlajhjoakijmaaGreatDoorV21
import Derived.Test.YtnlajhjoakijmaaGreatDoorV22
import Derived.Test.YtnlajhjoakijmaaGreatDoorV23
import Derived.Test.YtnlajhjoakijmaaGreatDoorV24
import Derived.Test.YtnlajhjoakijmaaGreatDoorV25
import Derived.Test.YtnlajhjoakijmaaGreatDoorV26
import Derived.Test.YtnlajhjoakijmaaGreatDoorV27
import Derived.Test.YtnlajhjoakijmaaGreatDoorV28
import Derived.Test.YtnlajhjoakijmaaGreatDoorV29
import Derived.Test.YtnlajhjoakijmaaGreatDoorV30
import Derived.Test.YtnlajhjoakijmaaGreatDoorV31
import Derived.Test.YtnlajhjoakijmaaGreatDoorV32
import Derived.Test.YtnlajhjoakijmaaGreatDoorW01
import Derived.Test.YtnlajhjoakijmaaGreatDoorRows
import Derived.ProofKit
import Derived.LaidMore
import Derived.OpenShut
import Derived.Stop.Joined
import Derived.Stop.LaidErr
import Derived.Lib.LaidTab
import Derived.Deep.Matrix
namespace Go.Proofs.YtnlajhjoakijmaaGreatDoor
open Go.RowKit Go.Sort
set_option maxRecDepth 100000 in
set_option maxHeartbeats 8000000 in
theorem lge_walk {w : World} {b : Int} {rv : Value} {Z : List (List Int)} {vals : Bool} {sx : Option Addr} {nx cx : Nat} {x : List Int} (hb : 0 ≤ b ∧ b ≤ 255) (hR : RowsA w rv Z) (hx : RowR w (.slice sx nx cx) x) (hL : Laid w) :
    Calls Tryz.prog 11 #[.agg #[.int .u8 b, rv, .bool vals], .slice sx nx cx] w fun e w' => e = .returned (.bool true) ∧ Ext w w' := by
  have hkn := Lib.hid (fun W (hW : Ext w W) => known20_any (hL.ext hW))
  have hft := Lib.hid (fun W (hW : Ext w W) => fits18_any (b := b) (vals := vals) (hR.ext hW))
  have hmk := Lib.hid (fun W (hW : Ext w W) (h3 : Z.length ≤ 3) => make18_any (vals := vals) hb (hR.ext hW) h3 (hL.ext hW))
  have HL := Lib.hid hL
  obtain ⟨sa, gb, go, cap, rfl, k1, k2, k3, k4⟩ := id hR
  clear k1 k2 k3 k4
  obtain ⟨rz, hrz⟩ : ∃ rz, rz = Z.length := ⟨_, rfl⟩
  rw [← hrz] at hft hmk ⊢
  have hX := (Ext.refl w).alloc (.cells #[.int .u8 b, .slice sa rz cap, .bool vals] 24)
  have p0 : (w.alloc (.cells #[.int .u8 b, .slice sa rz cap, .bool vals] 24)).cell? ⟨w.heap.size, 0, none⟩ = some (.int .u8 b) := by go_simp
  have p1 : (w.alloc (.cells #[.int .u8 b, .slice sa rz cap, .bool vals] 24)).cell? ⟨w.heap.size, 1, none⟩ = some (.slice sa rz cap) := by go_simp
  have p2 : (w.alloc (.cells #[.int .u8 b, .slice sa rz cap, .bool vals] 24)).cell? ⟨w.heap.size, 2, none⟩ = some (.bool vals) := by go_simp
  clear hrz hb hR hL hx
  by_cases hz3 : rz ≤ 3
  · rw [decide_eq_true hz3] at hft
    by_cases hn8 : 8 < nx
    · have hnI : (8 : Int) < (nx : Int) := by omega
      clear hmk hz3
      go_enter Tryz.func11, Tryz.ntmps11
      go_wp2_with fail
      refine (hkn.out _ hX).mono ?_
      rintro e X ⟨rfl, hE1⟩
      have p0 := hE1.cell p0
      have p1 := hE1.cell p1
      have p2 := hE1.cell p2
      have e1 := hX.trans hE1
      clear hE1
      go_wp2_with fail
      refine (hft.out _ e1).mono ?_
      rintro e X2 ⟨rfl, hE2⟩
      have p0 := hE2.cell p0
      have p1 := hE2.cell p1
      have p2 := hE2.cell p2
      have e2 := e1.trans hE2
      clear hE2
      go_wp2_with fail
      refine (hkn.out _ e2).mono ?_
      rintro e X3 ⟨rfl, hE3⟩
      go_wp2_with fail
      go_ret
      exact ⟨rfl, e2.trans hE3⟩
    · have hnI : ¬ (8 : Int) < (nx : Int) := by omega
      replace hmk := Lib.hid (fun W hW => hmk.out W hW hz3)
      clear hz3
      go_enter Tryz.func11, Tryz.ntmps11
      go_wp2_with fail
      refine (hkn.out _ hX).mono ?_
      rintro e X ⟨rfl, hE1⟩
      have p0 := hE1.cell p0
      have p1 := hE1.cell p1
      have p2 := hE1.cell p2
      have e1 := hX.trans hE1
      clear hE1
      go_wp2_with fail
      refine (hft.out _ e1).mono ?_
      rintro e X2 ⟨rfl, hE2⟩
      have p0 := hE2.cell p0
      have p1 := hE2.cell p1
      have p2 := hE2.cell p2
      have e2 := e1.trans hE2
      clear hE2
      go_wp2_with fail
      refine (hmk.out _ e2).mono ?_
      rintro e X3 ⟨t, C, M, rfl, ht, hE3⟩
      have e3 := e2.trans hE3
      generalize prL b = P at *
      obtain ⟨sp, cp, sc, lc, cc, sm, lm, cm, rfl, hT⟩ := ht.open
      have hml : lm = M.length := by obtain ⟨_, _, _, _, _, e, _⟩ := hT.hM; injection e
      subst hml
      have hp4 := hT.ok.p4
      have hM4 : M.length ≤ 4 := by
        obtain ⟨psM, hIM⟩ := hT.ok.kM.1
        have := isH_len hIM; omega
      obtain ⟨sm', gm, om, cm', vs, em, hmc, hvl, hSm, hrm⟩ := hT.hM
      injection em with q4 q5 q6
      subst q4 q6
      clear q5
      have hone : ∀ u ∈ vs, u.oneCell' = true := fun u hu => by
        obtain ⟨i, hi, rfl⟩ := List.getElem_of_mem hu
        obtain ⟨_, _, _, _, hv, _, _⟩ := hrm i (by omega) hi
        rw [hv]; rfl
      have Hone := Lib.hid hone
      have Hvl := Lib.hid hvl
      have HSm := Lib.hid hSm
      have Hrm := Lib.hid hrm
      have HT := Lib.hid hT
      have hbt : w.heap.size ≤ X3.heap.size := e3.size
      have HB0 := Lib.hid (own3 X3 34 (.slice sp P.length cp) (.slice sc lc cc) (.slice sm M.length cm))
      have ea := (Ext.refl X3).alloc (.cells #[.slice sp P.length cp, .slice sc lc cc, .slice sm M.length cm] 34)
      have t0 : (X3.alloc (.cells #[.slice sp P.length cp, .slice sc lc cc, .slice sm M.length cm] 34)).cell? ⟨X3.heap.size, 0, none⟩ = some (.slice sp P.length cp) := by go_simp
      have t1 : (X3.alloc (.cells #[.slice sp P.length cp, .slice sc lc cc, .slice sm M.length cm] 34)).cell? ⟨X3.heap.size, 1, none⟩ = some (.slice sc lc cc) := by go_simp
      have t2 : (X3.alloc (.cells #[.slice sp P.length cp, .slice sc lc cc, .slice sm M.length cm] 34)).cell? ⟨X3.heap.size, 2, none⟩ = some (.slice sm M.length cm) := by go_simp
      have hs34 : X3.heap.size < (X3.alloc (.cells #[.slice sp P.length cp, .slice sc lc cc, .slice sm M.length cm] 34)).heap.size := by simp
      clear hT ht hE3 hmk hft p0 p1 p2 e1 e2 hvl hSm hrm hone
      go_upto_region 4 with fail
      generalize X3.alloc (.cells #[.slice sp P.length cp, .slice sc lc cc, .slice sm M.length cm] 34) = X4 at *
      obtain ⟨bt, hbtq⟩ : ∃ bt, bt = X3.heap.size := ⟨_, rfl⟩
      rw [← hbtq] at hbt HB0 t0 t1 t2 hs34 ⊢
      have Hbt := Lib.hid hbtq
      clear hbtq
      go_cut [] from 45 to 55 (fun wx => ∃ g' c', Hid (OwnV 34 w.heap.size wx bt 3 [.slice sp P.length cp, .slice sc lc cc, slv g' (M.length + 1) c']) ∧ Hid (MatR wx (slv g' (M.length + 1) c') (M ++ [List.replicate P.length 0])) ∧ Ext X3 wx)
      case first =>
        have dd : Ext X4 X4.drew := (Ext.refl X4).drew
        have hd4 : X4.heap.size ≤ X4.drew.heap.size := Nat.le_refl _
        refine wp_region_held_tail (S := fun W => Ext X4 W) 10 (by kernel_rfl) (by simp) ?_
        intro inv
        generalize X4.drew = X5 at *
        refine wpAnyLH_take (i := 1) (v := .pointer (some ⟨bt, 2, none⟩)) rfl (by kernel_rfl) (fun _ _ _ h => h) (.inl ⟨by rfl, fun W hW => by go_simp⟩) dd inv ?_
        intro inv
        go_simp
        refine wpAnyLH_take (i := 2) (v := .slice sm M.length cm) rfl (by kernel_rfl) (fun _ _ _ h => h) (.inl ⟨by rfl, fun W hW => by have q0 := hW.cell t2; go_simp⟩) dd inv ?_
        intro inv
        go_simp
        refine wpAnyLH_take (i := 4) (v := .pointer (some ⟨bt, 0, none⟩)) rfl (by kernel_rfl) (fun _ _ _ h => h) (.inl ⟨by rfl, fun W hW => by go_simp⟩) dd inv ?_
        intro inv
        go_simp
        refine wpAnyLH_take (i := 5) (v := .slice sp P.length cp) rfl (by kernel_rfl) (fun _ _ _ h => h) (.inl ⟨by rfl, fun W hW => by have q0 := hW.cell t0; go_simp⟩) dd inv ?_
        intro inv
        go_simp
        refine wpAnyLH_take (i := 6) (v := .int .i64 P.length) rfl (by kernel_rfl) (fun _ _ _ h => h) (.inl ⟨by rfl, fun W hW => by go_simp⟩) dd inv ?_
        intro inv
        go_simp
        refine wpAnyLH_twoII (i := 0) (j := 7) rfl rfl (by kernel_rfl) inv (fun inv K1 hK1 => ?_) (fun inv K1 hK1 => ?_)
        case refine_1 =>
          go_simp
          refine hK1 _ _ (dd.alloc _) ?_
          clear hK1
          have d1 : Ext X4 (X5.alloc (.cells #[] 30)) := dd.alloc _
          have HA := Lib.hid (show OwnV 30 X4.heap.size (X5.alloc (.cells #[] 30)) X5.heap.size 0 [] from (own_none X5 30).mono dd.size)
          generalize X5.heap.size = ga at *
          generalize hw1 : X5.alloc (.cells #[] 30) = w1 at *
          clear hw1
          refine wpAnyLH_twoII (i := 3) (j := 7) rfl rfl (by kernel_rfl) inv (fun inv K2 hK2 => ?_) (fun inv K2 hK2 => ?_)
          case refine_1 =>
            refine step_append_mat rfl _ _ rfl (B := X4.heap.size) rfl HA.out rfl ((HSm.out.ext ea).ext d1) Hvl.out Hone.out (by omega) d1.size ?_
            intro gc cc9 w2 hOc hBc hGc
            have d2 : Ext X4 w2 := Below.trans d1 hBc
            refine hK2 _ _ d2 ?_
            clear hK2
            have HC := Lib.hid hOc
            clear hGc
            clear hOc hBc HA
            refine wpAnyLH_oneI (i := 7) rfl (by kernel_rfl) inv (fun inv K3 hK3 => ?_)
            refine step_make_row rfl _ _ rfl rfl rfl (by omega) ?_
            intro w3 hOd hGd
            have x3 : Ext w2 w3 := ext_grown hGd
            have d3 := d2.trans x3
            refine hK3 _ _ d3 ?_
            clear hK3
            have HD := Lib.hid (RowV.mono hOd d2.size)
            have HC := Lib.hid (HC.out.ext x3)
            generalize w2.heap.size = gd at *
            clear hOd hGd x3
            refine wpAnyLH_oneI (i := 8) rfl (by kernel_rfl) inv (fun inv K4 hK4 => ?_)
            go_simp
            refine hK4 _ _ (d3.alloc _) ?_
            clear hK4
            have x4 := (Ext.refl w3).alloc (.cells #[slv gd P.length P.length] 30)
            have d4 : Ext X4 (w3.alloc (.cells #[slv gd P.length P.length] 30)) := d3.alloc _
            have HEc : Hid ((w3.alloc (.cells #[slv gd P.length P.length] 30)).cell? ⟨w3.heap.size, 0, none⟩ = some (slv gd P.length P.length)) := Lib.hid (by go_simp)
            have HD := Lib.hid (RowV.ext HD.out x4)
            have HC := Lib.hid (HC.out.ext x4)
            clear x4
            generalize w3.heap.size = ge at *
            generalize hw4 : w3.alloc (.cells #[slv gd P.length P.length] 30) = w4 at *
            clear hw4
            refine wpAnyLH_oneI (i := 9) rfl (by kernel_rfl) inv (fun inv K5 hK5 => ?_)
            refine step_append_one rfl _ _ rfl (B := X4.heap.size) rfl HC.out Hvl.out rfl HEc.out rfl (by omega) (d4.size) ?_
            intro g' c' w9 hO9 hB9 hG9
            have d9 : Ext X4 w9 := Below.trans d4 hB9
            have HZ9 := Lib.hid (own_kept HD.out (HC.out.row rfl) (by decide) hG9)
            refine hK5 _ _ d9 ?_
            clear hK5
            refine wpAnyLH_end (by kernel_rfl) ?_
            have e39 := ea.trans d9
            have HB9 := Lib.hid (HB0.out.ext d9)
            obtain ⟨HB10, hG10⟩ := HB9.out.set 2 (slv g' (M.length + 1) c')
            have fr := HB9.out.frozen 2
            have m2 := HB9.out.cell (j := 2) (by simp)
            simp only [List.getElem_cons_zero, List.getElem_cons_succ] at m2
            have e310 := ext_trans_grown e39 hG10 (by rw [← Hbt.out]; exact Nat.le_refl _)
            have HO10 := Lib.hid (show OwnV 30 X4.heap.size _ g' c' _ from OwnV.of_row (own_kept (hO9.row (n := M.length + 1) (by simp [Hvl.out])) (HB9.out.row rfl) (by decide) hG10))
            have HZ10 := Lib.hid (own_kept HZ9.out (HB9.out.row rfl) (by decide) hG10)
            have HMx := Lib.hid (mat_of_own (M := M ++ [List.replicate P.length 0]) HO10.out (by simp [Hvl.out]) (fun i h h' => by
              rcases Nat.lt_or_ge i M.length with hi | hi
              · rw [List.getElem_append_left (by rw [Hvl.out]; exact hi), List.getElem_append_left hi]
                exact (Hrm.out i hi (by rw [Hvl.out]; exact hi)).ext e310
              · have hie : i = M.length := by simp at h; omega
                subst hie
                rw [List.getElem_append_right (by rw [Hvl.out]; exact Nat.le_refl _), List.getElem_append_right (Nat.le_refl _)]
                simp only [Hvl.out, Nat.sub_self, List.getElem_cons_zero]
                exact RowV.row HZ10.out))
            have HBx := Lib.hid (HB10.mono hbt)
            have He := Lib.hid e310
            clear HO10 HZ10 HB10 hG10 e310 e39 hO9 hB9 hG9 HZ9 HC HD HEc
            go_wp2_with fail
            go_meet
            exact ⟨g', c', HBx.out |> Lib.hid, by have := HMx.out; simp only [List.length_append, List.length_cons, List.length_nil, Nat.zero_add] at this; exact Lib.hid this, He.out⟩
          case refine_2 =>
            refine step_make_row rfl _ _ rfl rfl rfl (by omega) ?_
            intro w2 hOd hGd
            have x2 : Ext w1 w2 := ext_grown hGd
            have d2 := d1.trans x2
            refine hK2 _ _ d2 ?_
            clear hK2
            have HD := Lib.hid (RowV.mono hOd d1.size)
            have HA := Lib.hid (HA.out.ext x2)
            generalize w1.heap.size = gd at *
            clear hOd hGd x2
            refine wpAnyLH_twoII (i := 3) (j := 8) rfl rfl (by kernel_rfl) inv (fun inv K6 hK6 => ?_) (fun inv K6 hK6 => ?_)
            case refine_1 =>
              refine step_append_mat rfl _ _ rfl (B := X4.heap.size) rfl HA.out rfl ((HSm.out.ext ea).ext d2) Hvl.out Hone.out (by omega) d2.size ?_
              intro gc cc9 w6 hOc hBc hGc
              have d6 : Ext X4 w6 := Below.trans d2 hBc
              refine hK6 _ _ d6 ?_
              clear hK6
              have HC := Lib.hid hOc
              have HD := Lib.hid (own_kept HD.out (HA.out.row rfl) (by decide) hGc)
              clear hGc
              clear hOc hBc HA
              refine wpAnyLH_oneI (i := 8) rfl (by kernel_rfl) inv (fun inv K7 hK7 => ?_)
              go_simp
              refine hK7 _ _ (d6.alloc _) ?_
              clear hK7
              have x7 := (Ext.refl w6).alloc (.cells #[slv gd P.length P.length] 30)
              have d7 : Ext X4 (w6.alloc (.cells #[slv gd P.length P.length] 30)) := d6.alloc _
              have HEc : Hid ((w6.alloc (.cells #[slv gd P.length P.length] 30)).cell? ⟨w6.heap.size, 0, none⟩ = some (slv gd P.length P.length)) := Lib.hid (by go_simp)
              have HD := Lib.hid (RowV.ext HD.out x7)
              have HC := Lib.hid (HC.out.ext x7)
              clear x7
              generalize w6.heap.size = ge at *
              generalize hw7 : w6.alloc (.cells #[slv gd P.length P.length] 30) = w7 at *
              clear hw7
              refine wpAnyLH_oneI (i := 9) rfl (by kernel_rfl) inv (fun inv K8 hK8 => ?_)
              refine step_append_one rfl _ _ rfl (B := X4.heap.size) rfl HC.out Hvl.out rfl HEc.out rfl (by omega) (d7.size) ?_
              intro g' c' w9 hO9 hB9 hG9
              have d9 : Ext X4 w9 := Below.trans d7 hB9
              have HZ9 := Lib.hid (own_kept HD.out (HC.out.row rfl) (by decide) hG9)
              refine hK8 _ _ d9 ?_
              clear hK8
              refine wpAnyLH_end (by kernel_rfl) ?_
              have e39 := ea.trans d9
              have HB9 := Lib.hid (HB0.out.ext d9)
              obtain ⟨HB10, hG10⟩ := HB9.out.set 2 (slv g' (M.length + 1) c')
              have fr := HB9.out.frozen 2
              have m2 := HB9.out.cell (j := 2) (by simp)
              simp only [List.getElem_cons_zero, List.getElem_cons_succ] at m2
              have e310 := ext_trans_grown e39 hG10 (by rw [← Hbt.out]; exact Nat.le_refl _)
              have HO10 := Lib.hid (show OwnV 30 X4.heap.size _ g' c' _ from OwnV.of_row (own_kept (hO9.row (n := M.length + 1) (by simp [Hvl.out])) (HB9.out.row rfl) (by decide) hG10))
              have HZ10 := Lib.hid (own_kept HZ9.out (HB9.out.row rfl) (by decide) hG10)
              have HMx := Lib.hid (mat_of_own (M := M ++ [List.replicate P.length 0]) HO10.out (by simp [Hvl.out]) (fun i h h' => by
                rcases Nat.lt_or_ge i M.length with hi | hi
                · rw [List.getElem_append_left (by rw [Hvl.out]; exact hi), List.getElem_append_left hi]
                  exact (Hrm.out i hi (by rw [Hvl.out]; exact hi)).ext e310
                · have hie : i = M.length := by simp at h; omega
                  subst hie
                  rw [List.getElem_append_right (by rw [Hvl.out]; exact Nat.le_refl _), List.getElem_append_right (Nat.le_refl _)]
                  simp only [Hvl.out, Nat.sub_self, List.getElem_cons_zero]
                  exact RowV.row HZ10.out))
              have HBx := Lib.hid (HB10.mono hbt)
              have He := Lib.hid e310
              clear HO10 HZ10 HB10 hG10 e310 e39 hO9 hB9 hG9 HZ9 HC HD HEc
              go_wp2_with fail
              go_meet
              exact ⟨g', c', HBx.out |> Lib.hid, by have := HMx.out; simp only [List.length_append, List.length_cons, List.length_nil, Nat.zero_add] at this; exact Lib.hid this, He.out⟩
            case refine_2 =>
              go_simp
              refine hK6 _ _ (d2.alloc _) ?_
              clear hK6
              have x6 := (Ext.refl w2).alloc (.cells #[slv gd P.length P.length] 30)
              have d6 : Ext X4 (w2.alloc (.cells #[slv gd P.length P.length] 30)) := d2.alloc _
              have HEc : Hid ((w2.alloc (.cells #[slv gd P.length P.length] 30)).cell? ⟨w2.heap.size, 0, none⟩ = some (slv gd P.length P.length)) := Lib.hid (by go_simp)
              have HD := Lib.hid (RowV.ext HD.out x6)
              have hga : ga ≠ w2.heap.size := Nat.ne_of_lt HA.out.lt.2
              have HA := Lib.hid (HA.out.ext x6)
              clear x6
              generalize w2.heap.size = ge at *
              generalize hw6 : w2.alloc (.cells #[slv gd P.length P.length] 30) = w6 at *
              clear hw6
              refine wpAnyLH_oneI (i := 3) rfl (by kernel_rfl) inv (fun inv K9 hK9 => ?_)
              refine step_append_mat rfl _ _ rfl (B := X4.heap.size) rfl HA.out rfl ((HSm.out.ext ea).ext d6) Hvl.out Hone.out (by omega) d6.size ?_
              intro gc cc9 w9 hOc hBc hGc
              have d9 : Ext X4 w9 := Below.trans d6 hBc
              refine hK9 _ _ d9 ?_
              clear hK9
              have HC := Lib.hid hOc
              have HD := Lib.hid (own_kept HD.out (HA.out.row rfl) (by decide) hGc)
              have HEc := Lib.hid (grown_frozen_cell hGc (Ne.symm hga) HEc.out)
              clear hGc
              clear hOc hBc HA
              refine wpAnyLH_oneI (i := 9) rfl (by kernel_rfl) inv (fun inv K10 hK10 => ?_)
              refine step_append_one rfl _ _ rfl (B := X4.heap.size) rfl HC.out Hvl.out rfl HEc.out rfl (by omega) (d9.size) ?_
              intro g' c' w9 hO9 hB9 hG9
              have d9 : Ext X4 w9 := Below.trans d9 hB9
              have HZ9 := Lib.hid (own_kept HD.out (HC.out.row rfl) (by decide) hG9)
              refine hK10 _ _ d9 ?_
              clear hK10
              refine wpAnyLH_end (by kernel_rfl) ?_
              have e39 := ea.trans d9
              have HB9 := Lib.hid (HB0.out.ext d9)
              obtain ⟨HB10, hG10⟩ := HB9.out.set 2 (slv g' (M.length + 1) c')
              have fr := HB9.out.frozen 2
              have m2 := HB9.out.cell (j := 2) (by simp)
              simp only [List.getElem_cons_zero, List.getElem_cons_succ] at m2
              have e310 := ext_trans_grown e39 hG10 (by rw [← Hbt.out]; exact Nat.le_refl _)
              have HO10 := Lib.hid (show OwnV 30 X4.heap.size _ g' c' _ from OwnV.of_row (own_kept (hO9.row (n := M.length + 1) (by simp [Hvl.out])) (HB9.out.row rfl) (by decide) hG10))
              have HZ10 := Lib.hid (own_kept HZ9.out (HB9.out.row rfl) (by decide) hG10)
              have HMx := Lib.hid (mat_of_own (M := M ++ [List.replicate P.length 0]) HO10.out (by simp [Hvl.out]) (fun i h h' => by
                rcases Nat.lt_or_ge i M.length with hi | hi
                · rw [List.getElem_append_left (by rw [Hvl.out]; exact hi), List.getElem_append_left hi]
                  exact (Hrm.out i hi (by rw [Hvl.out]; exact hi)).ext e310
                · have hie : i = M.length := by simp at h; omega
                  subst hie
                  rw [List.getElem_append_right (by rw [Hvl.out]; exact Nat.le_refl _), List.getElem_append_right (Nat.le_refl _)]
                  simp only [Hvl.out, Nat.sub_self, List.getElem_cons_zero]
                  exact RowV.row HZ10.out))
              have HBx := Lib.hid (HB10.mono hbt)
              have He := Lib.hid e310
              clear HO10 HZ10 HB10 hG10 e310 e39 hO9 hB9 hG9 HZ9 HC HD HEc
              go_wp2_with fail
              go_meet
              exact ⟨g', c', HBx.out |> Lib.hid, by have := HMx.out; simp only [List.length_append, List.length_cons, List.length_nil, Nat.zero_add] at this; exact Lib.hid this, He.out⟩
        case refine_2 =>
          refine step_make_row rfl _ _ rfl rfl rfl (by omega) ?_
          intro w1 hOd hGd
          have x1 : Ext X5 w1 := ext_grown hGd
          have d1 := dd.trans x1
          refine hK1 _ _ d1 ?_
          clear hK1
          have HD := Lib.hid (RowV.mono hOd dd.size)
          generalize X5.heap.size = gd at *
          clear hOd hGd x1
          refine wpAnyLH_twoII (i := 0) (j := 8) rfl rfl (by kernel_rfl) inv (fun inv K11 hK11 => ?_) (fun inv K11 hK11 => ?_)
          case refine_1 =>
            go_simp
            refine hK11 _ _ (d1.alloc _) ?_
            clear hK11
            have d11 : Ext X4 (w1.alloc (.cells #[] 30)) := d1.alloc _
            have HA := Lib.hid (show OwnV 30 X4.heap.size (w1.alloc (.cells #[] 30)) w1.heap.size 0 [] from (own_none w1 30).mono d1.size)
            have HD := Lib.hid (RowV.ext HD.out ((Ext.refl w1).alloc (.cells #[] 30)))
            generalize w1.heap.size = ga at *
            generalize hw11 : w1.alloc (.cells #[] 30) = w11 at *
            clear hw11
            refine wpAnyLH_twoII (i := 3) (j := 8) rfl rfl (by kernel_rfl) inv (fun inv K12 hK12 => ?_) (fun inv K12 hK12 => ?_)
            case refine_1 =>
              refine step_append_mat rfl _ _ rfl (B := X4.heap.size) rfl HA.out rfl ((HSm.out.ext ea).ext d11) Hvl.out Hone.out (by omega) d11.size ?_
              intro gc cc9 w12 hOc hBc hGc
              have d12 : Ext X4 w12 := Below.trans d11 hBc
              refine hK12 _ _ d12 ?_
              clear hK12
              have HC := Lib.hid hOc
              have HD := Lib.hid (own_kept HD.out (HA.out.row rfl) (by decide) hGc)
              clear hGc
              clear hOc hBc HA
              refine wpAnyLH_oneI (i := 8) rfl (by kernel_rfl) inv (fun inv K13 hK13 => ?_)
              go_simp
              refine hK13 _ _ (d12.alloc _) ?_
              clear hK13
              have x13 := (Ext.refl w12).alloc (.cells #[slv gd P.length P.length] 30)
              have d13 : Ext X4 (w12.alloc (.cells #[slv gd P.length P.length] 30)) := d12.alloc _
              have HEc : Hid ((w12.alloc (.cells #[slv gd P.length P.length] 30)).cell? ⟨w12.heap.size, 0, none⟩ = some (slv gd P.length P.length)) := Lib.hid (by go_simp)
              have HD := Lib.hid (RowV.ext HD.out x13)
              have HC := Lib.hid (HC.out.ext x13)
              clear x13
              generalize w12.heap.size = ge at *
              generalize hw13 : w12.alloc (.cells #[slv gd P.length P.length] 30) = w13 at *
              clear hw13
              refine wpAnyLH_oneI (i := 9) rfl (by kernel_rfl) inv (fun inv K14 hK14 => ?_)
              refine step_append_one rfl _ _ rfl (B := X4.heap.size) rfl HC.out Hvl.out rfl HEc.out rfl (by omega) (d13.size) ?_
              intro g' c' w9 hO9 hB9 hG9
              have d9 : Ext X4 w9 := Below.trans d13 hB9
              have HZ9 := Lib.hid (own_kept HD.out (HC.out.row rfl) (by decide) hG9)
              refine hK14 _ _ d9 ?_
              clear hK14
              refine wpAnyLH_end (by kernel_rfl) ?_
              have e39 := ea.trans d9
              have HB9 := Lib.hid (HB0.out.ext d9)
              obtain ⟨HB10, hG10⟩ := HB9.out.set 2 (slv g' (M.length + 1) c')
              have fr := HB9.out.frozen 2
              have m2 := HB9.out.cell (j := 2) (by simp)
              simp only [List.getElem_cons_zero, List.getElem_cons_succ] at m2
              have e310 := ext_trans_grown e39 hG10 (by rw [← Hbt.out]; exact Nat.le_refl _)
              have HO10 := Lib.hid (show OwnV 30 X4.heap.size _ g' c' _ from OwnV.of_row (own_kept (hO9.row (n := M.length + 1) (by simp [Hvl.out])) (HB9.out.row rfl) (by decide) hG10))
              have HZ10 := Lib.hid (own_kept HZ9.out (HB9.out.row rfl) (by decide) hG10)
              have HMx := Lib.hid (mat_of_own (M := M ++ [List.replicate P.length 0]) HO10.out (by simp [Hvl.out]) (fun i h h' => by
                rcases Nat.lt_or_ge i M.length with hi | hi
                · rw [List.getElem_append_left (by rw [Hvl.out]; exact hi), List.getElem_append_left hi]
                  exact (Hrm.out i hi (by rw [Hvl.out]; exact hi)).ext e310
                · have hie : i = M.length := by simp at h; omega
                  subst hie
                  rw [List.getElem_append_right (by rw [Hvl.out]; exact Nat.le_refl _), List.getElem_append_right (Nat.le_refl _)]
                  simp only [Hvl.out, Nat.sub_self, List.getElem_cons_zero]
                  exact RowV.row HZ10.out))
              have HBx := Lib.hid (HB10.mono hbt)
              have He := Lib.hid e310
              clear HO10 HZ10 HB10 hG10 e310 e39 hO9 hB9 hG9 HZ9 HC HD HEc
              go_wp2_with fail
              go_meet
              exact ⟨g', c', HBx.out |> Lib.hid, by have := HMx.out; simp only [List.length_append, List.length_cons, List.length_nil, Nat.zero_add] at this; exact Lib.hid this, He.out⟩
            case refine_2 =>
              go_simp
              refine hK12 _ _ (d11.alloc _) ?_
              clear hK12
              have x12 := (Ext.refl w11).alloc (.cells #[slv gd P.length P.length] 30)
              have d12 : Ext X4 (w11.alloc (.cells #[slv gd P.length P.length] 30)) := d11.alloc _
              have HEc : Hid ((w11.alloc (.cells #[slv gd P.length P.length] 30)).cell? ⟨w11.heap.size, 0, none⟩ = some (slv gd P.length P.length)) := Lib.hid (by go_simp)
              have HD := Lib.hid (RowV.ext HD.out x12)
              have hga : ga ≠ w11.heap.size := Nat.ne_of_lt HA.out.lt.2
              have HA := Lib.hid (HA.out.ext x12)
              clear x12
              generalize w11.heap.size = ge at *
              generalize hw12 : w11.alloc (.cells #[slv gd P.length P.length] 30) = w12 at *
              clear hw12
              refine wpAnyLH_oneI (i := 3) rfl (by kernel_rfl) inv (fun inv K15 hK15 => ?_)
              refine step_append_mat rfl _ _ rfl (B := X4.heap.size) rfl HA.out rfl ((HSm.out.ext ea).ext d12) Hvl.out Hone.out (by omega) d12.size ?_
              intro gc cc9 w15 hOc hBc hGc
              have d15 : Ext X4 w15 := Below.trans d12 hBc
              refine hK15 _ _ d15 ?_
              clear hK15
              have HC := Lib.hid hOc
              have HD := Lib.hid (own_kept HD.out (HA.out.row rfl) (by decide) hGc)
              have HEc := Lib.hid (grown_frozen_cell hGc (Ne.symm hga) HEc.out)
              clear hGc
              clear hOc hBc HA
              refine wpAnyLH_oneI (i := 9) rfl (by kernel_rfl) inv (fun inv K16 hK16 => ?_)
              refine step_append_one rfl _ _ rfl (B := X4.heap.size) rfl HC.out Hvl.out rfl HEc.out rfl (by omega) (d15.size) ?_
              intro g' c' w9 hO9 hB9 hG9
              have d9 : Ext X4 w9 := Below.trans d15 hB9
              have HZ9 := Lib.hid (own_kept HD.out (HC.out.row rfl) (by decide) hG9)
              refine hK16 _ _ d9 ?_
              clear hK16
              refine wpAnyLH_end (by kernel_rfl) ?_
              have e39 := ea.trans d9
              have HB9 := Lib.hid (HB0.out.ext d9)
              obtain ⟨HB10, hG10⟩ := HB9.out.set 2 (slv g' (M.length + 1) c')
              have fr := HB9.out.frozen 2
              have m2 := HB9.out.cell (j := 2) (by simp)
              simp only [List.getElem_cons_zero, List.getElem_cons_succ] at m2
              have e310 := ext_trans_grown e39 hG10 (by rw [← Hbt.out]; exact Nat.le_refl _)
              have HO10 := Lib.hid (show OwnV 30 X4.heap.size _ g' c' _ from OwnV.of_row (own_kept (hO9.row (n := M.length + 1) (by simp [Hvl.out])) (HB9.out.row rfl) (by decide) hG10))
              have HZ10 := Lib.hid (own_kept HZ9.out (HB9.out.row rfl) (by decide) hG10)
              have HMx := Lib.hid (mat_of_own (M := M ++ [List.replicate P.length 0]) HO10.out (by simp [Hvl.out]) (fun i h h' => by
                rcases Nat.lt_or_ge i M.length with hi | hi
                · rw [List.getElem_append_left (by rw [Hvl.out]; exact hi), List.getElem_append_left hi]
                  exact (Hrm.out i hi (by rw [Hvl.out]; exact hi)).ext e310
                · have hie : i = M.length := by simp at h; omega
                  subst hie
                  rw [List.getElem_append_right (by rw [Hvl.out]; exact Nat.le_refl _), List.getElem_append_right (Nat.le_refl _)]
                  simp only [Hvl.out, Nat.sub_self, List.getElem_cons_zero]
                  exact RowV.row HZ10.out))
              have HBx := Lib.hid (HB10.mono hbt)
              have He := Lib.hid e310
              clear HO10 HZ10 HB10 hG10 e310 e39 hO9 hB9 hG9 HZ9 HC HD HEc
              go_wp2_with fail
              go_meet
              exact ⟨g', c', HBx.out |> Lib.hid, by have := HMx.out; simp only [List.length_append, List.length_cons, List.length_nil, Nat.zero_add] at this; exact Lib.hid this, He.out⟩
          case refine_2 =>
            go_simp
            refine hK11 _ _ (d1.alloc _) ?_
            clear hK11
            have x11 := (Ext.refl w1).alloc (.cells #[slv gd P.length P.length] 30)
            have d11 : Ext X4 (w1.alloc (.cells #[slv gd P.length P.length] 30)) := d1.alloc _
            have HEc : Hid ((w1.alloc (.cells #[slv gd P.length P.length] 30)).cell? ⟨w1.heap.size, 0, none⟩ = some (slv gd P.length P.length)) := Lib.hid (by go_simp)
            have HD := Lib.hid (RowV.ext HD.out x11)
            clear x11
            generalize w1.heap.size = ge at *
            generalize hw11 : w1.alloc (.cells #[slv gd P.length P.length] 30) = w11 at *
            clear hw11
            refine wpAnyLH_oneI (i := 0) rfl (by kernel_rfl) inv (fun inv K17 hK17 => ?_)
            go_simp
            refine hK17 _ _ (d11.alloc _) ?_
            clear hK17
            have d17 : Ext X4 (w11.alloc (.cells #[] 30)) := d11.alloc _
            have HA := Lib.hid (show OwnV 30 X4.heap.size (w11.alloc (.cells #[] 30)) w11.heap.size 0 [] from (own_none w11 30).mono d11.size)
            have HD := Lib.hid (RowV.ext HD.out ((Ext.refl w11).alloc (.cells #[] 30)))
            have hga : w11.heap.size ≠ ge := Nat.ne_of_gt (World.block_lt_of_cell? _ _ HEc.out)
            have HEc := Lib.hid (((Ext.refl w11).alloc (.cells #[] 30)).cell HEc.out)
            generalize w11.heap.size = ga at *
            generalize hw17 : w11.alloc (.cells #[] 30) = w17 at *
            clear hw17
            refine wpAnyLH_oneI (i := 3) rfl (by kernel_rfl) inv (fun inv K18 hK18 => ?_)
            refine step_append_mat rfl _ _ rfl (B := X4.heap.size) rfl HA.out rfl ((HSm.out.ext ea).ext d17) Hvl.out Hone.out (by omega) d17.size ?_
            intro gc cc9 w18 hOc hBc hGc
            have d18 : Ext X4 w18 := Below.trans d17 hBc
            refine hK18 _ _ d18 ?_
            clear hK18
            have HC := Lib.hid hOc
            have HD := Lib.hid (own_kept HD.out (HA.out.row rfl) (by decide) hGc)
            have HEc := Lib.hid (grown_frozen_cell hGc (Ne.symm hga) HEc.out)
            clear hGc
            clear hOc hBc HA
            refine wpAnyLH_oneI (i := 9) rfl (by kernel_rfl) inv (fun inv K19 hK19 => ?_)
            refine step_append_one rfl _ _ rfl (B := X4.heap.size) rfl HC.out Hvl.out rfl HEc.out rfl (by omega) (d18.size) ?_
            intro g' c' w9 hO9 hB9 hG9
            have d9 : Ext X4 w9 := Below.trans d18 hB9
            have HZ9 := Lib.hid (own_kept HD.out (HC.out.row rfl) (by decide) hG9)
            refine hK19 _ _ d9 ?_
            clear hK19
            refine wpAnyLH_end (by kernel_rfl) ?_
            have e39 := ea.trans d9
            have HB9 := Lib.hid (HB0.out.ext d9)
            obtain ⟨HB10, hG10⟩ := HB9.out.set 2 (slv g' (M.length + 1) c')
            have fr := HB9.out.frozen 2
            have m2 := HB9.out.cell (j := 2) (by simp)
            simp only [List.getElem_cons_zero, List.getElem_cons_succ] at m2
            have e310 := ext_trans_grown e39 hG10 (by rw [← Hbt.out]; exact Nat.le_refl _)
            have HO10 := Lib.hid (show OwnV 30 X4.heap.size _ g' c' _ from OwnV.of_row (own_kept (hO9.row (n := M.length + 1) (by simp [Hvl.out])) (HB9.out.row rfl) (by decide) hG10))
            have HZ10 := Lib.hid (own_kept HZ9.out (HB9.out.row rfl) (by decide) hG10)
            have HMx := Lib.hid (mat_of_own (M := M ++ [List.replicate P.length 0]) HO10.out (by simp [Hvl.out]) (fun i h h' => by
              rcases Nat.lt_or_ge i M.length with hi | hi
              · rw [List.getElem_append_left (by rw [Hvl.out]; exact hi), List.getElem_append_left hi]
                exact (Hrm.out i hi (by rw [Hvl.out]; exact hi)).ext e310
              · have hie : i = M.length := by simp at h; omega
                subst hie
                rw [List.getElem_append_right (by rw [Hvl.out]; exact Nat.le_refl _), List.getElem_append_right (Nat.le_refl _)]
                simp only [Hvl.out, Nat.sub_self, List.getElem_cons_zero]
                exact RowV.row HZ10.out))
            have HBx := Lib.hid (HB10.mono hbt)
            have He := Lib.hid e310
            clear HO10 HZ10 HB10 hG10 e310 e39 hO9 hB9 hG9 HZ9 HC HD HEc
            go_wp2_with fail
            go_meet
            exact ⟨g', c', HBx.out |> Lib.hid, by have := HMx.out; simp only [List.length_append, List.length_cons, List.length_nil, Nat.zero_add] at this; exact Lib.hid this, He.out⟩
      case rest =>
        obtain ⟨g', c', HBx, HMx, hEc⟩ := hcut
        generalize wc = Y at *
        have hne : M ≠ M ++ [List.replicate P.length 0] := fun h => by
          have := congrArg List.length h
          simp at this
        have HTv := Lib.hid (⟨HT.out.ok, HT.out.hP.ext hEc, HT.out.hC.ext hEc, HMx.out⟩ : TmV Y P C M (M ++ [List.replicate P.length 0]) sp cp sc lc cc (some ⟨g', 0, none⟩) (M.length + 1) c')
        have HLY := Lib.hid (HL.out.ext (e3.trans hEc))
        have t0 := HBx.out.cell (j := 0) (by simp)
        have t1 := HBx.out.cell (j := 1) (by simp)
        have t2 := HBx.out.cell (j := 2) (by simp)
        simp only [List.getElem_cons_zero, List.getElem_cons_succ] at t0 t1 t2
        have h14 : tmE M (M ++ [List.replicate P.length 0]) = 14 := if_neg hne
        have hck := Lib.hid (fun W (hW : Ext Y W) => tCheck_any (HTv.out.ext hW) (HLY.out.ext hW))
        rw [h14] at hck
        have e0 := e3.trans hEc
        have eY := Ext.refl Y
        clear HBx HMx hEc h14 HB0 ea
        go_wp2_with fail
        refine (hck.out _ eY).mono ?_
        rintro e Y1 ⟨rfl, hF⟩
        replace eY := eY.trans hF
        replace t0 := hF.cell t0
        replace t1 := hF.cell t1
        replace t2 := hF.cell t2
        clear hF hck
        go_wp2_with fail
        refine (gChange_err (HTv.out.ext eY) hne (HLY.out.ext eY)).mono ?_
        rintro e Y2 ⟨rfl, hF⟩
        replace eY := eY.trans hF
        replace t0 := hF.cell t0
        replace t1 := hF.cell t1
        replace t2 := hF.cell t2
        clear hF
        go_wp2_with fail
        refine (gSection_err (HTv.out.ext eY) hne (HLY.out.ext eY)).mono ?_
        rintro e Y3 ⟨rfl, hF⟩
        replace eY := eY.trans hF
        replace t0 := hF.cell t0
        replace t1 := hF.cell t1
        replace t2 := hF.cell t2
        clear hF
        go_wp2_with fail
        refine (gOf_err (HTv.out.ext eY) hne (HLY.out.ext eY)).mono ?_
        rintro e Y4 ⟨rfl, hF⟩
        have fa := (Ext.refl Y4).alloc (.cells #[.int .i64 0, .slice none 0 0, .slice none 0 0] 37)
        have f0 : (Y4.alloc (.cells #[.int .i64 0, .slice none 0 0, .slice none 0 0] 37)).cell? ⟨Y4.heap.size, 0, none⟩ = some (.int .i64 0) := by go_simp
        have f1 : (Y4.alloc (.cells #[.int .i64 0, .slice none 0 0, .slice none 0 0] 37)).cell? ⟨Y4.heap.size, 1, none⟩ = some (.slice none 0 0) := by go_simp
        have f2 : (Y4.alloc (.cells #[.int .i64 0, .slice none 0 0, .slice none 0 0] 37)).cell? ⟨Y4.heap.size, 2, none⟩ = some (.slice none 0 0) := by go_simp
        replace hF := hF.trans fa
        replace eY := eY.trans hF
        replace t0 := hF.cell t0
        replace t1 := hF.cell t1
        replace t2 := hF.cell t2
        clear hF
        go_wp2_with fail
        refine (gSteps_err (HTv.out.ext eY) hne (HLY.out.ext eY)).mono ?_
        rintro e Y5 ⟨rfl, hF⟩
        replace eY := eY.trans hF
        replace t0 := hF.cell t0
        replace t1 := hF.cell t1
        replace t2 := hF.cell t2
        replace f1 := hF.cell f1
        replace f2 := hF.cell f2
        clear hF
        go_wp2_with fail
        refine (gSpan_err (HTv.out.ext eY) hne (HLY.out.ext eY)).mono ?_
        rintro e Y6 ⟨rfl, hF⟩
        replace eY := eY.trans hF
        replace t0 := hF.cell t0
        replace t1 := hF.cell t1
        replace t2 := hF.cell t2
        replace f1 := hF.cell f1
        replace f2 := hF.cell f2
        clear hF
        go_wp2_with fail
        refine (gPreimage_err (HTv.out.ext eY) hne (HLY.out.ext eY)).mono ?_
        rintro e Y7 ⟨rfl, hF⟩
        replace eY := eY.trans hF
        replace t0 := hF.cell t0
        replace t1 := hF.cell t1
        replace t2 := hF.cell t2
        replace f1 := hF.cell f1
        replace f2 := hF.cell f2
        clear hF
        go_wp2_with fail
        refine (gBox_err (HTv.out.ext eY) hne (HLY.out.ext eY)).mono ?_
        rintro e Y8 ⟨rfl, hF⟩
        replace eY := eY.trans hF
        replace t0 := hF.cell t0
        replace t1 := hF.cell t1
        replace t2 := hF.cell t2
        replace f1 := hF.cell f1
        replace f2 := hF.cell f2
        clear hF
        go_wp2_with fail
        refine (gLeast_err (HTv.out.ext eY) hne (HLY.out.ext eY)).mono ?_
        rintro e Y9 ⟨rfl, hF⟩
        replace eY := eY.trans hF
        replace t0 := hF.cell t0
        replace t1 := hF.cell t1
        replace t2 := hF.cell t2
        replace f1 := hF.cell f1
        replace f2 := hF.cell f2
        clear hF
        go_wp2_with fail
        refine (gGenerates_err (HTv.out.ext eY) hne (HLY.out.ext eY)).mono ?_
        rintro e Y10 ⟨rfl, hF⟩
        replace eY := eY.trans hF
        replace t0 := hF.cell t0
        replace t1 := hF.cell t1
        replace t2 := hF.cell t2
        replace f1 := hF.cell f1
        replace f2 := hF.cell f2
        clear hF
        go_wp2_with fail
        refine (gExpress_err (HTv.out.ext eY) hne (HLY.out.ext eY)).mono ?_
        rintro e Y11 ⟨rfl, hF⟩
        replace eY := eY.trans hF
        replace t0 := hF.cell t0
        replace t1 := hF.cell t1
        replace t2 := hF.cell t2
        replace f1 := hF.cell f1
        replace f2 := hF.cell f2
        clear hF
        go_wp2_with fail
        go_ret
        exact ⟨rfl, e0.trans eY⟩
  · rw [decide_eq_false hz3] at hft
    clear hmk hz3
    go_enter Tryz.func11, Tryz.ntmps11
    go_wp2_with fail
    refine (hkn.out _ hX).mono ?_
    rintro e X ⟨rfl, hE1⟩
    have p0 := hE1.cell p0
    have p1 := hE1.cell p1
    have p2 := hE1.cell p2
    have e1 := hX.trans hE1
    clear hE1
    go_wp2_with fail
    refine (hft.out _ e1).mono ?_
    rintro e X2 ⟨rfl, hE2⟩
    have p0 := hE2.cell p0
    have p1 := hE2.cell p1
    have p2 := hE2.cell p2
    have e2 := e1.trans hE2
    clear hE2
    go_wp2_with fail
    refine (hkn.out _ e2).mono ?_
    rintro e X3 ⟨rfl, hE3⟩
    go_wp2_with fail
    go_ret
    exact ⟨rfl, e2.trans hE3⟩
end Go.Proofs.YtnlajhjoakijmaaGreatDoor
namespace Go.Proofs.YtnlajhjoakijmaaGreatDoor
open Go.ChangeShapes Go.WideShapes Go.ChangeAt Go.WideMaps Go.WideElems Go.RowKit Go.Deep
theorem fr_cI : Tryz.prog.cellsOf 3 = 1 := by kernel_rfl
theorem row_open {W : World} {A : Option Addr} {L C : Nat} {Z : List Int} {base : Nat} (h1 : L ≤ C) (h2 : Z.length = C) (h3 : A = none → C = 0) (h4 : ∀ a', A = some a' → base ≤ a'.block ∧ ∀ c, c < C → W.cell? (a'.add c) = some (.int .i64 (Z.getD c 0))) : RowR W (.slice A L C) (Z.take L) := by
  have hl : (Z.take L).length = L := by rw [List.length_take]; omega
  cases A with
  | none =>
    have hC := h3 rfl
    refine ⟨none, 0, 0, C, by rw [hl], by rw [hl]; exact h1, fun h => ?_, fun i x hx => ?_⟩
    · rw [is_length, hl] at h; omega
    · have := (List.getElem?_eq_some_iff.1 hx).1
      rw [is_length, hl] at this; omega
  | some a =>
    obtain ⟨_, hc⟩ := h4 a rfl
    have hsp : 0 < L → a.spot = none := fun h => by simpa [Addr.add] using World.cell?_spot (hc 0 (by omega))
    obtain ⟨b, o, sp⟩ := a
    refine ⟨some ⟨b, o, sp⟩, b, o, C, by rw [hl], by rw [hl]; exact h1, fun h => ?_, fun i x hx => ?_⟩
    · rw [is_length, hl] at h
      have := hsp h
      simp at this
      rw [this]
    · have hi := (List.getElem?_eq_some_iff.1 hx).1
      rw [is_length, hl] at hi
      have := hsp (by omega)
      simp at this
      subst this
      rw [is_get (by rw [hl]; exact hi)] at hx
      have e := Option.some.inj hx
      rw [← e, ← add_plain, hc i (by omega), List.getElem_take, getD_get (by omega)]
end Go.Proofs.YtnlajhjoakijmaaGreatDoor
namespace Go.Proofs.YtnlajhjoakijmaaGreatDoor
open Go.ChangeShapes Go.WideShapes Go.ChangeAt Go.WideMaps Go.WideElems Go.RowKit Go.Deep
theorem introw_open {H : Type} {enc : TypeId × Value → H} {W : World} {base : Nat} {held : Bool} {fuel : Nat} {v : Value} {x : DataW H × List MemPlace} (hv : v.cells.toList = [v])
    (h : DataW.trod enc Tryz.prog W base (fun _ => true) held fuel 30 v.cells.toList = some x) : ∃ r, RowR W v r := by
  rw [hv] at h
  rcases open_ints Tryz.underlying30 Tryz.underlying3 fr_cI h with ⟨hcs, _⟩ | ⟨a, len, cap, zs, hcs, hb, hl, _, hz, _, hc, _⟩
  · obtain rfl : v = .slice none 0 0 := by simpa using hcs
    exact ⟨[], row_open (base := 0) (Z := []) (Nat.le_refl 0) rfl (fun _ => rfl) (fun a' h => by cases h)⟩
  · obtain rfl : v = .slice (some a) len cap := by simpa using hcs
    rw [if_pos rfl] at hz
    exact ⟨zs.take len, row_open (base := base) hl hz (fun h => by cases h) (fun a' h => by cases h; exact ⟨hb, fun c hcc => hc c (by omega)⟩)⟩
end Go.Proofs.YtnlajhjoakijmaaGreatDoor
