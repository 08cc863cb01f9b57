/- Part 34 of the proof of the claim: contracts of the functions that it reaches, and plain laws; no condition. -/
import Derived.Test.YtjnpakablgommaaGreatDoorV33
set_option maxRecDepth 100000
namespace Go.Proofs.YtjnpakablgommaaGreatDoor
open Go.RowKit Go.Sort
def SpoPost (w : World) (sz : Value) (L : List (List UInt8 × List UInt8)) (e : Ending) (w' : World) : Prop := ∃ sp np cp sc lc cc sm lm cm sg lg cg z, e = .returned (.agg #[.slice sp np cp, .slice sc lc cc, .slice sm lm cm, .slice sg lg cg]) ∧ (∀ w2, Nr w' w2 → Kp w w2 → SzT w2 sz L → Laid w2 → CkA w2 (.agg #[.slice sp np cp, .slice sc lc cc, .slice sm lm cm, .slice sg lg cg]) z) ∧ Ext w w'
set_option maxHeartbeats 8000000 in
theorem spl3 {w : World} {P : List Int} {C M : Mx} {G : List (List Rat)} {sp : Option Addr} {cp : Nat} {sc : Option Addr} {lc cc : Nat} {sm : Option Addr} {lm cm : Nat} {sg : Option Addr} {lg cg : Nat} {hw : Int} {ss : Option Addr} {cs : Nat} {L : List (List UInt8 × List UInt8)} (h : TuV w P C M G sp cp sc lc cc sm lm cm sg lg cg) (hk : hw % 6 = 3) (hh : 0 ≤ hw ∧ hw < 256) (hs : SzT w (.slice ss L.length cs) L) (hb : ∀ p ∈ L, p.1.length ≤ 1000000 ∧ p.2.length ≤ 1000000) (hL : Laid w) :
  Calls Tryz.prog 25 #[tuS P sp cp sc lc cc sm lm cm sg lg cg, .agg #[.int .u8 hw, .slice ss L.length cs]] w (SpoPost w (.slice ss L.length cs) L) := by
 have hlm := h.lgl
 obtain ⟨hT, hG, hln, hcl, hsh⟩ := h
 have hp4 := hT.ok.p4
 have hm4 := hT.m4
 have hlg := hG.len
 have hg4 : G.length ≤ 4 := by omega
 subst hlg
 have HT := Lib.hid hT
 have HG := Lib.hid hG
 have HL := Lib.hid hL
 have Hln := Lib.hid hln
 have Hlm := Lib.hid hlm
 have Hcl := Lib.hid hcl
 have Hsh := Lib.hid hsh
 have Hst := Lib.hid hs
 have Hb := Lib.hid hb
 obtain ⟨sg', gg, go, cg', vs, eg, hgc, hvl, hS, hr⟩ := hG
 injection eg with q1 q2 q3
 clear q2
 subst q1 q3
 have HS := Lib.hid hS
 have HV := Lib.hid hvl
 have HR := Lib.hid hr
 have hX := (((Ext.refl w).alloc (.cells #[.slice sp P.length cp, .slice sc lc cc, .slice sm lm cm, .slice sg G.length cg] 67)).alloc (.cells #[.int .u8 hw, .slice ss L.length cs] 62)).alloc (.cells #[.slice none 0 0, .slice none 0 0, .slice none 0 0, .slice none 0 0] 67)
 have HckF := Lib.hid (fun W gx cap6 (hK : Kp w W) (hl : Laid W) (ho : OwnV 60 (w.heap.size + 3) W gx cap6 vs) => spo_gn (lg := G.length) (sg := some ⟨gx, 0, none⟩) (cg := cap6) (HT.out.kp hK) hl Hlm.out (GnR.txt ⟨_, gx, 0, cap6, vs, rfl, by have := ho.cap; rw [HV.out] at this; exact this, HV.out, ho.sl, fun i a b => hK.siz _ _ (HR.out i a b)⟩ |> fun h => by simpa using h) (fun K hK => by
  obtain ⟨l, hl, rfl⟩ := List.mem_map.1 hK
  exact txQ_len (Hsh.out l hl)) (by simp; omega))
 have HO0 := ((own4 w 67 (.slice sp P.length cp) (.slice sc lc cc) (.slice sm lm cm) (.slice sg G.length cg)).ext ((Ext.refl _).alloc (.cells #[.int .u8 hw, .slice ss L.length cs] 62))).ext ((Ext.refl _).alloc (.cells #[.slice none 0 0, .slice none 0 0, .slice none 0 0, .slice none 0 0] 67))
 have HO2 := own4 ((w.alloc (.cells #[.slice sp P.length cp, .slice sc lc cc, .slice sm lm cm, .slice sg G.length cg] 67)).alloc (.cells #[.int .u8 hw, .slice ss L.length cs] 62)) 67 (.slice none 0 0) (.slice none 0 0) (.slice none 0 0) (.slice none 0 0)
 have y0 : (((w.alloc (.cells #[.slice sp P.length cp, .slice sc lc cc, .slice sm lm cm, .slice sg G.length cg] 67)).alloc (.cells #[.int .u8 hw, .slice ss L.length cs] 62)).alloc (.cells #[.slice none 0 0, .slice none 0 0, .slice none 0 0, .slice none 0 0] 67)).cell? ⟨w.heap.size + 1, 0, none⟩ = some (.int .u8 hw) := by go_simp
 have y1 : (((w.alloc (.cells #[.slice sp P.length cp, .slice sc lc cc, .slice sm lm cm, .slice sg G.length cg] 67)).alloc (.cells #[.int .u8 hw, .slice ss L.length cs] 62)).alloc (.cells #[.slice none 0 0, .slice none 0 0, .slice none 0 0, .slice none 0 0] 67)).cell? ⟨w.heap.size + 1, 1, none⟩ = some (.slice ss L.length cs) := by go_simp
 rw [show ((w.alloc (.cells #[.slice sp P.length cp, .slice sc lc cc, .slice sm lm cm, .slice sg G.length cg] 67)).alloc (.cells #[.int .u8 hw, .slice ss L.length cs] 62)).heap.size = w.heap.size + 2 by simp] at HO2
 have hDs : (((w.alloc (.cells #[.slice sp P.length cp, .slice sc lc cc, .slice sm lm cm, .slice sg G.length cg] 67)).alloc (.cells #[.int .u8 hw, .slice ss L.length cs] 62)).alloc (.cells #[.slice none 0 0, .slice none 0 0, .slice none 0 0, .slice none 0 0] 67)).heap.size = w.heap.size + 3 := by simp
 clear hT hL hln hcl hsh hS hr hvl hs hb hlm
 have x3 : ((((w.alloc (.cells #[.slice sp P.length cp, .slice sc lc cc, .slice sm lm cm, .slice sg G.length cg] 67)).alloc (.cells #[.int .u8 hw, .slice ss L.length cs] 62)).alloc (.cells #[.slice none 0 0, .slice none 0 0, .slice none 0 0, .slice none 0 0] 67)).alloc (.cells #[] 60)).cell? ⟨w.heap.size, 3, none⟩ = some (.slice sg G.length cg) := by go_simp
 have eZ : Ext (((w.alloc (.cells #[.slice sp P.length cp, .slice sc lc cc, .slice sm lm cm, .slice sg G.length cg] 67)).alloc (.cells #[.int .u8 hw, .slice ss L.length cs] 62)).alloc (.cells #[.slice none 0 0, .slice none 0 0, .slice none 0 0, .slice none 0 0] 67)) ((((w.alloc (.cells #[.slice sp P.length cp, .slice sc lc cc, .slice sm lm cm, .slice sg G.length cg] 67)).alloc (.cells #[.int .u8 hw, .slice ss L.length cs] 62)).alloc (.cells #[.slice none 0 0, .slice none 0 0, .slice none 0 0, .slice none 0 0] 67)).alloc (.cells #[] 60)) := (Ext.refl _).alloc _
 have HOe : OwnV 60 (w.heap.size + 3) ((((w.alloc (.cells #[.slice sp P.length cp, .slice sc lc cc, .slice sm lm cm, .slice sg G.length cg] 67)).alloc (.cells #[.int .u8 hw, .slice ss L.length cs] 62)).alloc (.cells #[.slice none 0 0, .slice none 0 0, .slice none 0 0, .slice none 0 0] 67)).alloc (.cells #[] 60)) (w.heap.size + 3) 0 [] := by
  have h0 : OwnV 60 (((w.alloc (.cells #[.slice sp P.length cp, .slice sc lc cc, .slice sm lm cm, .slice sg G.length cg] 67)).alloc (.cells #[.int .u8 hw, .slice ss L.length cs] 62)).alloc (.cells #[.slice none 0 0, .slice none 0 0, .slice none 0 0, .slice none 0 0] 67)).heap.size ((((w.alloc (.cells #[.slice sp P.length cp, .slice sc lc cc, .slice sm lm cm, .slice sg G.length cg] 67)).alloc (.cells #[.int .u8 hw, .slice ss L.length cs] 62)).alloc (.cells #[.slice none 0 0, .slice none 0 0, .slice none 0 0, .slice none 0 0] 67)).alloc (.cells #[] 60)) (((w.alloc (.cells #[.slice sp P.length cp, .slice sc lc cc, .slice sm lm cm, .slice sg G.length cg] 67)).alloc (.cells #[.int .u8 hw, .slice ss L.length cs] 62)).alloc (.cells #[.slice none 0 0, .slice none 0 0, .slice none 0 0, .slice none 0 0] 67)).heap.size 0 [] := OwnV.of (Nat.le_refl _) Array.getElem?_push_size (Nat.le_refl _) (Nat.zero_le _) rfl rfl
  rw [hDs] at h0; exact h0
 have HSz := Lib.hid (HS.out.ext (hX.trans eZ))
 replace HO0 := Lib.hid HO0
 replace HO2 := Lib.hid HO2
 replace HOe := Lib.hid HOe
 have Hy0 := Lib.hid y0
 have Hy1 := Lib.hid y1
 replace eZ := Lib.hid eZ
 have HDs := Lib.hid hDs
 have HOne := Lib.hid (show ∀ u ∈ vs, u.oneCell' = true from fun u hu => by
  obtain ⟨j, hj, rfl⟩ := List.getElem_of_mem hu
  obtain ⟨xa, xc, ex⟩ := szR_slc (HR.out j (by have := HV.out; omega) hj)
  rw [ex]; rfl)
 obtain ⟨s0, hs, hy0, hy1, hy2⟩ := info_parts Tryz.infoSz
 replace hX := Lib.hid hX
 clear y0 y1 hDs
 go_enter Tryz.func25, Tryz.ntmps25
 go_upto_region 2 with (at_builtin; (refine wpList_spread rfl _ _ 65 rfl (w.heap.size + 3) 60 s0 _ 24 Tryz.underlying65 hs hy0 hy1 hy2 rfl (w.heap.size + 3) rfl HOe.out sg gg go G.length cg vs rfl HV.out HSz.out HOne.out (by omega) (by unfold maxLen; omega) (by simp) ?_; intro gx cap6 w6 hown6 hgrow6; have E6 : Ext (((w.alloc (.cells #[.slice sp P.length cp, .slice sc lc cc, .slice sm lm cm, .slice sg G.length cg] 67)).alloc (.cells #[.int .u8 hw, .slice ss L.length cs] 62)).alloc (.cells #[.slice none 0 0, .slice none 0 0, .slice none 0 0, .slice none 0 0] 67)) w6 := Ext.mk' (Below.grown eZ.out hgrow6 eZ.out.size (fun q hq => by rw [HDs.out]; exact (World.ownsRow.lt HOe.out q hq).1)); have HO6 := HO0.out.ext E6; have HT6 := Lib.hid (HO2.out.ext E6); have Hz0 := Lib.hid (E6.cell Hy0.out); have Hz1 := Lib.hid (E6.cell Hy1.out); have HE6 := Lib.hid (hX.out.trans E6); have HX6 := Lib.hid hown6; have e0 := HO6.cell (j := 3) (by simp); simp only [List.getElem_cons_zero, List.getElem_cons_succ] at e0; have f0 := HO6.frozen 3; obtain ⟨hA, gA⟩ := OwnV.set HO6 3 (slv gx G.length cap6); simp only [List.set_cons_zero, List.set_cons_succ] at hA; have E7 := ext_trans_grown HE6.out gA (Nat.le_refl _); have hsz6 := HT6.out.lt.2; have z0 := (gA.cell_far ⟨w.heap.size + 1, 0, none⟩ (show w.heap.size + 1 < _ by omega) (by simp)).trans Hz0.out; have z1 := (gA.cell_far ⟨w.heap.size + 1, 1, none⟩ (show w.heap.size + 1 < _ by omega) (by simp)).trans Hz1.out; have HT7 := Lib.hid (HT6.out.other gA (by omega)); have hgx := HX6.out.lt; have HX7 := Lib.hid (HX6.out.other gA (by omega)); have hgx2 := hgx.1; have q3 := hA.cell (j := 3) (by simp); simp only [List.getElem_cons_zero, List.getElem_cons_succ] at q3; have HA := Lib.hid hA; replace E7 := Lib.hid E7; clear x3 hgrow6 E6 HO0 HO2 Hy0 Hy1 HSz HOe eZ hX hown6 hgx HX6 HT6 Hz0 Hz1 HE6 hA gA hsz6 HO6))
 generalize w6.setCell ⟨w.heap.size, 3, none⟩ (slv gx G.length cap6) = W7 at *
 clear e0 f0 hs hy0 hy1 hy2 HOne HDs
 obtain ⟨b2, hb2⟩ : ∃ b, b = w.heap.size + 2 := ⟨_, rfl⟩
 rw [show w.heap.size + 1 + 1 = b2 from hb2.symm]
 rw [← hb2] at HT7
 obtain ⟨b1, hb1⟩ : ∃ b, b = w.heap.size + 1 := ⟨_, rfl⟩
 rw [← hb1] at z0 z1 ⊢
 obtain ⟨b0, hb0⟩ : ∃ b, b = w.heap.size := ⟨_, rfl⟩
 rw [← hb0] at HA HX7 hgx2 q3 ⊢
 have Hb0 := Lib.hid hb0
 have Hb1 := Lib.hid hb1
 have Hb2 := Lib.hid hb2
 have Hgx := Lib.hid hgx2
 clear hb0 hb1 hb2 hgx2
 clear HckF
 have hMl := HT.out.hM.len
 subst hMl
 have hm4' := HT.out.m4
 have hpp4 := HT.out.ok.p4
 obtain ⟨sm', gm, om, cm', vm, em, hmc, hvlm, hSm, hrm⟩ := HT.out.hM
 injection em with r1 r2 r3
 clear r2
 subst r1 r3
 have HVm := Lib.hid hvlm
 have HSm := Lib.hid hSm
 have HRm := Lib.hid hrm
 have HOne := Lib.hid (show ∀ u ∈ vm, u.oneCell' = true from fun u hu => by
  obtain ⟨j, hj, rfl⟩ := List.getElem_of_mem hu
  obtain ⟨_, _, _, _, hv, _, _⟩ := HRm.out j (by have := HVm.out; omega) hj
  rw [hv]; rfl)
 have HmpF := Lib.hid (fun W g c (hK : Kp w W) (hl : Laid W) (hm : MatR W (slv g (M.length + 1) c) (M ++ [List.replicate P.length 0])) => spo_mp (sg := some ⟨gx, 0, none⟩) (lg := G.length) (cg := cap6) (⟨HT.out.ok, (HT.out.kp hK).hP, (HT.out.kp hK).hC, hm⟩ : TmV W P C M (M ++ [List.replicate P.length 0]) sp cp sc lc cc (some ⟨g, 0, none⟩) (M.length + 1) c) hl (fun h => by
  have := congrArg List.length h
  simp at this))
 have q0 := HA.out.cell (j := 0) (by simp)
 have q2 := HA.out.cell (j := 2) (by simp)
 simp only [List.getElem_cons_zero, List.getElem_cons_succ] at q0 q2
 clear hSm hrm hvlm hmc
 go_upto_region 13 with fail
 clear q3 z0 z1
 have dd : Ext W7 W7.drew := (Ext.refl W7).drew
 refine wp_region_held_tail (S := fun W => Ext W7 W) 12 (by kernel_rfl) (by simp) ?_
 intro inv
 generalize W7.drew = X5 at *
 refine wpAnyLH_take (i := 1) (v := .pointer (some ⟨b0, 0, none⟩)) rfl (by kernel_rfl) (fun _ _ _ h => h) (.inl ⟨by rfl, fun W hW => by go_simp⟩) dd inv ?_
 intro inv
 go_simp
 refine wpAnyLH_take (i := 2) (v := .pointer (some ⟨b0, 2, none⟩)) rfl (by kernel_rfl) (fun _ _ _ h => h) (.inl ⟨by rfl, fun W hW => by go_simp⟩) dd inv ?_
 intro inv
 go_simp
 refine wpAnyLH_take (i := 3) (v := .slice sm M.length cm) rfl (by kernel_rfl) (fun _ _ _ h => h) (.inl ⟨by rfl, fun W hW => by have q9 := hW.cell q2; go_simp⟩) dd inv ?_
 intro inv
 go_simp
 refine wpAnyLH_take (i := 5) (v := .pointer (some ⟨b0, 0, none⟩)) rfl (by kernel_rfl) (fun _ _ _ h => h) (.inl ⟨by rfl, fun W hW => by go_simp⟩) dd inv ?_
 intro inv
 go_simp
 refine wpAnyLH_take (i := 6) (v := .pointer (some ⟨b0, 0, none⟩)) rfl (by kernel_rfl) (fun _ _ _ h => h) (.inl ⟨by rfl, fun W hW => by go_simp⟩) dd inv ?_
 intro inv
 go_simp
 refine wpAnyLH_take (i := 7) (v := .slice sp P.length cp) rfl (by kernel_rfl) (fun _ _ _ h => h) (.inl ⟨by rfl, fun W hW => by have q9 := hW.cell q0; go_simp⟩) dd inv ?_
 intro inv
 go_simp
 refine wpAnyLH_take (i := 8) (v := .int .i64 P.length) rfl (by kernel_rfl) (fun _ _ _ h => h) (.inl ⟨by rfl, fun W hW => by go_simp⟩) dd inv ?_
 intro inv
 go_simp
 refine wpAnyLH_twoII (i := 0) (j := 9) rfl rfl (by kernel_rfl) inv (fun inv K1 hK1 => ?_) (fun inv K1 hK1 => ?_)
 case refine_1 =>
  go_simp
  refine hK1 _ _ (dd.alloc _) ?_
  clear hK1
  have d1 : Ext W7 (X5.alloc (.cells #[] 30)) := dd.alloc _
  have HAA := Lib.hid (show OwnV 30 W7.heap.size (X5.alloc (.cells #[] 30)) X5.heap.size 0 [] from (show OwnV 30 X5.heap.size (X5.alloc (.cells #[] 30)) X5.heap.size 0 [] from OwnV.of (Nat.le_refl _) Array.getElem?_push_size (Nat.le_refl _) (Nat.zero_le _) rfl rfl).mono dd.size)
  generalize X5.heap.size = ga at *
  generalize hw1 : X5.alloc (.cells #[] 30) = w1 at *
  clear hw1
  refine wpAnyLH_twoII (i := 4) (j := 9) rfl rfl (by kernel_rfl) inv (fun inv K2 hK2 => ?_) (fun inv K2 hK2 => ?_)
  case refine_1 =>
   refine step_append_mat rfl _ _ rfl (B := W7.heap.size) rfl HAA.out rfl (HSm.out.ext (E7.out.trans d1)) HVm.out HOne.out (by omega) d1.size ?_
   intro gc cc9 w2 hOc hBc hGc
   have d2 : Ext W7 w2 := Below.trans d1 hBc
   refine hK2 _ _ d2 ?_
   clear hK2
   have HC := Lib.hid hOc
   clear hGc
   clear hOc hBc HAA
   refine wpAnyLH_oneI (i := 9) rfl (by kernel_rfl) inv (fun inv K3 hK3 => ?_)
   refine step_make_row rfl _ _ rfl rfl rfl (by omega) ?_
   intro w3 hOd hGd
   have x3 : Ext w2 w3 := ext_grown hGd
   have d3 := d2.trans x3
   refine hK3 _ _ d3 ?_
   clear hK3
   have HD := Lib.hid (RowV.mono hOd d2.size)
   have HC := Lib.hid (HC.out.ext x3)
   generalize w2.heap.size = gd at *
   clear hOd hGd x3
   refine wpAnyLH_oneI (i := 10) rfl (by kernel_rfl) inv (fun inv K4 hK4 => ?_)
   go_simp
   refine hK4 _ _ (d3.alloc _) ?_
   clear hK4
   have x4 := (Ext.refl w3).alloc (.cells #[slv gd P.length P.length] 30)
   have d4 : Ext W7 (w3.alloc (.cells #[slv gd P.length P.length] 30)) := d3.alloc _
   have HEc : Hid ((w3.alloc (.cells #[slv gd P.length P.length] 30)).cell? ⟨w3.heap.size, 0, none⟩ = some (slv gd P.length P.length)) := Lib.hid (by go_simp)
   have HD := Lib.hid (RowV.ext HD.out x4)
   have HC := Lib.hid (HC.out.ext x4)
   clear x4
   generalize w3.heap.size = ge at *
   generalize hw4 : w3.alloc (.cells #[slv gd P.length P.length] 30) = w4 at *
   clear hw4
   refine wpAnyLH_oneI (i := 11) rfl (by kernel_rfl) inv (fun inv K5 hK5 => ?_)
   refine step_append_one rfl _ _ rfl (B := W7.heap.size) rfl HC.out HVm.out rfl HEc.out rfl (by omega) (d4.size) ?_
   intro g' c' w9 hO9 hB9 hG9
   have d9 : Ext W7 w9 := Below.trans d4 hB9
   have HZ9 := Lib.hid (own_kept HD.out (HC.out.row rfl) (by decide) hG9)
   refine hK5 _ _ d9 ?_
   clear hK5
   refine wpAnyLH_end (by kernel_rfl) ?_
   have HB9 := HA.out.ext d9
   obtain ⟨hA, gA⟩ := HB9.set 2 (slv g' (M.length + 1) c')
   simp only [List.set_cons_zero, List.set_cons_succ] at hA
   have f2 := HB9.frozen 2
   have m2 := HB9.cell (j := 2) (by simp)
   simp only [List.getElem_cons_zero, List.getElem_cons_succ] at m2
   have HE10 := Lib.hid (ext_trans_grown (E7.out.trans d9) gA (by rw [← Hb0.out]; exact Nat.le_refl _))
   have HT8 := Lib.hid ((HT7.out.ext d9).other gA (by have := Hb2.out; have := Hb0.out; omega))
   have HO10 := Lib.hid (show OwnV 30 W7.heap.size _ g' c' _ from OwnV.of_row (own_kept (hO9.row (n := M.length + 1) (by simp [HVm.out])) (HB9.row rfl) (by decide) gA))
   have HZ10 := Lib.hid (own_kept HZ9.out (HB9.row rfl) (by decide) gA)
   have HBx := Lib.hid hA
   clear hA gA hO9 hB9 hG9 HZ9 HC HD HEc HB9
   go_upto_region 16 with fail
   generalize w9.setCell ⟨b0, 2, none⟩ (slv g' (M.length + 1) c') = W8 at *
   clear m2 f2
   have Hs7 := Lib.hid (show b2 < W7.heap.size from HT7.out.lt.2)
   clear HA HT7 HX7 E7 HSm HOne
   have q0 := (HBx.out).cell (j := 0) (by simp); have q1 := (HBx.out).cell (j := 1) (by simp); have q2 := (HBx.out).cell (j := 2) (by simp); have q3 := (HBx.out).cell (j := 3) (by simp)
   simp only [List.getElem_cons_zero, List.getElem_cons_succ] at q0 q1 q2 q3
   obtain ⟨Hr6, He6, Hg6⟩ := set4 HE10.out (by have := Hb2.out; omega) HT8.out (.slice sp P.length cp) (.slice sc lc cc) (slv g' (M.length + 1) c') (slv gx G.length cap6)
   have r0 := Hr6.cell (j := 0) (by simp)
   have r1 := Hr6.cell (j := 1) (by simp)
   have r2 := Hr6.cell (j := 2) (by simp)
   have r3 := Hr6.cell (j := 3) (by simp)
   simp only [List.getElem_cons_zero, List.getElem_cons_succ] at r0 r1 r2 r3
   have f0 := (HT8.out).frozen 0
   have f1 := (HT8.out).frozen 1
   have f2 := (HT8.out).frozen 2
   have f3 := (HT8.out).frozen 3
   have m0 := (HT8.out).cell (j := 0) (by simp)
   have m1 := (HT8.out).cell (j := 1) (by simp)
   have m2 := (HT8.out).cell (j := 2) (by simp)
   have m3 := (HT8.out).cell (j := 3) (by simp)
   simp only [List.getElem_cons_zero, List.getElem_cons_succ] at m0 m1 m2 m3
   have HO11 := Lib.hid (HO10.out.other Hg6 (by have := Hs7.out; have := HO10.out.lt.1; omega))
   have HZ11 := Lib.hid (own_kept HZ10.out (HT8.out.row rfl) (by decide) Hg6)
   have HM11 := Lib.hid (fun w2 (hn : Nr _ w2) (hK : Kp w w2) => show MatR w2 (slv g' (M.length + 1) c') (M ++ [List.replicate P.length 0]) by
    have HM := mat_of_own (M := M ++ [List.replicate P.length 0]) (HO11.out.nr (by decide) hn) (by simp [HVm.out]) (fun i h h' => by
     rcases Nat.lt_or_ge i M.length with hi | hi
     ·rw [List.getElem_append_left (by rw [HVm.out]; exact hi), List.getElem_append_left hi]
      exact hK.row _ _ (HRm.out i hi (by rw [HVm.out]; exact hi))
     ·have hie : i = M.length := by simp at h; omega
      subst hie
      rw [List.getElem_append_right (by rw [HVm.out]; exact Nat.le_refl _), List.getElem_append_right (Nat.le_refl _)]
      simp only [HVm.out, Nat.sub_self, List.getElem_cons_zero]
      exact RowV.row (rowV_nr HZ11.out hn))
    simp only [List.length_append, List.length_cons, List.length_nil, Nat.zero_add] at HM
    exact HM)
   have Hres := Lib.hid (show SpoPost w (.slice ss L.length cs) L (.returned (.agg #[.slice sp P.length cp, .slice sc lc cc, slv g' (M.length + 1) c', slv gx G.length cap6])) _ from ⟨_, _, _, _, _, _, _, _, _, _, _, _, _, rfl, fun w2 hn hK _ hl2 => HmpF.out _ _ _ hK hl2 (HM11.out _ hn hK), He6⟩)
   clear Hr6 He6 Hg6
   clear HBx HT8 HE10 HO10 HZ10 HO11 HZ11 HM11
   go_wp2_with fail
   refine bodyPost_ret (v := .agg #[.slice sp P.length cp, .slice sc lc cc, slv g' (M.length + 1) c', slv gx G.length cap6]) (by simp [results, Tryz.results25, go_sem, r0, r1, r2, r3]) rfl Hres.out
  case refine_2 =>
   refine step_make_row rfl _ _ rfl rfl rfl (by omega) ?_
   intro w2 hOd hGd
   have x2 : Ext w1 w2 := ext_grown hGd
   have d2 := d1.trans x2
   refine hK2 _ _ d2 ?_
   clear hK2
   have HD := Lib.hid (RowV.mono hOd d1.size)
   have HAA := Lib.hid (HAA.out.ext x2)
   generalize w1.heap.size = gd at *
   clear hOd hGd x2
   refine wpAnyLH_twoII (i := 4) (j := 10) rfl rfl (by kernel_rfl) inv (fun inv K6 hK6 => ?_) (fun inv K6 hK6 => ?_)
   case refine_1 =>
    refine step_append_mat rfl _ _ rfl (B := W7.heap.size) rfl HAA.out rfl (HSm.out.ext (E7.out.trans d2)) HVm.out HOne.out (by omega) d2.size ?_
    intro gc cc9 w6 hOc hBc hGc
    have d6 : Ext W7 w6 := Below.trans d2 hBc
    refine hK6 _ _ d6 ?_
    clear hK6
    have HC := Lib.hid hOc
    have HD := Lib.hid (own_kept HD.out (HAA.out.row rfl) (by decide) hGc)
    clear hGc
    clear hOc hBc HAA
    refine wpAnyLH_oneI (i := 10) rfl (by kernel_rfl) inv (fun inv K7 hK7 => ?_)
    go_simp
    refine hK7 _ _ (d6.alloc _) ?_
    clear hK7
    have x7 := (Ext.refl w6).alloc (.cells #[slv gd P.length P.length] 30)
    have d7 : Ext W7 (w6.alloc (.cells #[slv gd P.length P.length] 30)) := d6.alloc _
    have HEc : Hid ((w6.alloc (.cells #[slv gd P.length P.length] 30)).cell? ⟨w6.heap.size, 0, none⟩ = some (slv gd P.length P.length)) := Lib.hid (by go_simp)
    have HD := Lib.hid (RowV.ext HD.out x7)
    have HC := Lib.hid (HC.out.ext x7)
    clear x7
    generalize w6.heap.size = ge at *
    generalize hw7 : w6.alloc (.cells #[slv gd P.length P.length] 30) = w7 at *
    clear hw7
    refine wpAnyLH_oneI (i := 11) rfl (by kernel_rfl) inv (fun inv K8 hK8 => ?_)
    refine step_append_one rfl _ _ rfl (B := W7.heap.size) rfl HC.out HVm.out rfl HEc.out rfl (by omega) (d7.size) ?_
    intro g' c' w9 hO9 hB9 hG9
    have d9 : Ext W7 w9 := Below.trans d7 hB9
    have HZ9 := Lib.hid (own_kept HD.out (HC.out.row rfl) (by decide) hG9)
    refine hK8 _ _ d9 ?_
    clear hK8
    refine wpAnyLH_end (by kernel_rfl) ?_
    have HB9 := HA.out.ext d9
    obtain ⟨hA, gA⟩ := HB9.set 2 (slv g' (M.length + 1) c')
    simp only [List.set_cons_zero, List.set_cons_succ] at hA
    have f2 := HB9.frozen 2
    have m2 := HB9.cell (j := 2) (by simp)
    simp only [List.getElem_cons_zero, List.getElem_cons_succ] at m2
    have HE10 := Lib.hid (ext_trans_grown (E7.out.trans d9) gA (by rw [← Hb0.out]; exact Nat.le_refl _))
    have HT8 := Lib.hid ((HT7.out.ext d9).other gA (by have := Hb2.out; have := Hb0.out; omega))
    have HO10 := Lib.hid (show OwnV 30 W7.heap.size _ g' c' _ from OwnV.of_row (own_kept (hO9.row (n := M.length + 1) (by simp [HVm.out])) (HB9.row rfl) (by decide) gA))
    have HZ10 := Lib.hid (own_kept HZ9.out (HB9.row rfl) (by decide) gA)
    have HBx := Lib.hid hA
    clear hA gA hO9 hB9 hG9 HZ9 HC HD HEc HB9
    go_upto_region 16 with fail
    generalize w9.setCell ⟨b0, 2, none⟩ (slv g' (M.length + 1) c') = W8 at *
    clear m2 f2
    have Hs7 := Lib.hid (show b2 < W7.heap.size from HT7.out.lt.2)
    clear HA HT7 HX7 E7 HSm HOne
    have q0 := (HBx.out).cell (j := 0) (by simp); have q1 := (HBx.out).cell (j := 1) (by simp); have q2 := (HBx.out).cell (j := 2) (by simp); have q3 := (HBx.out).cell (j := 3) (by simp)
    simp only [List.getElem_cons_zero, List.getElem_cons_succ] at q0 q1 q2 q3
    obtain ⟨Hr6, He6, Hg6⟩ := set4 HE10.out (by have := Hb2.out; omega) HT8.out (.slice sp P.length cp) (.slice sc lc cc) (slv g' (M.length + 1) c') (slv gx G.length cap6)
    have r0 := Hr6.cell (j := 0) (by simp)
    have r1 := Hr6.cell (j := 1) (by simp)
    have r2 := Hr6.cell (j := 2) (by simp)
    have r3 := Hr6.cell (j := 3) (by simp)
    simp only [List.getElem_cons_zero, List.getElem_cons_succ] at r0 r1 r2 r3
    have f0 := (HT8.out).frozen 0
    have f1 := (HT8.out).frozen 1
    have f2 := (HT8.out).frozen 2
    have f3 := (HT8.out).frozen 3
    have m0 := (HT8.out).cell (j := 0) (by simp)
    have m1 := (HT8.out).cell (j := 1) (by simp)
    have m2 := (HT8.out).cell (j := 2) (by simp)
    have m3 := (HT8.out).cell (j := 3) (by simp)
    simp only [List.getElem_cons_zero, List.getElem_cons_succ] at m0 m1 m2 m3
    have HO11 := Lib.hid (HO10.out.other Hg6 (by have := Hs7.out; have := HO10.out.lt.1; omega))
    have HZ11 := Lib.hid (own_kept HZ10.out (HT8.out.row rfl) (by decide) Hg6)
    have HM11 := Lib.hid (fun w2 (hn : Nr _ w2) (hK : Kp w w2) => show MatR w2 (slv g' (M.length + 1) c') (M ++ [List.replicate P.length 0]) by
     have HM := mat_of_own (M := M ++ [List.replicate P.length 0]) (HO11.out.nr (by decide) hn) (by simp [HVm.out]) (fun i h h' => by
      rcases Nat.lt_or_ge i M.length with hi | hi
      ·rw [List.getElem_append_left (by rw [HVm.out]; exact hi), List.getElem_append_left hi]
       exact hK.row _ _ (HRm.out i hi (by rw [HVm.out]; exact hi))
      ·have hie : i = M.length := by simp at h; omega
       subst hie
       rw [List.getElem_append_right (by rw [HVm.out]; exact Nat.le_refl _), List.getElem_append_right (Nat.le_refl _)]
       simp only [HVm.out, Nat.sub_self, List.getElem_cons_zero]
       exact RowV.row (rowV_nr HZ11.out hn))
     simp only [List.length_append, List.length_cons, List.length_nil, Nat.zero_add] at HM
     exact HM)
    have Hres := Lib.hid (show SpoPost w (.slice ss L.length cs) L (.returned (.agg #[.slice sp P.length cp, .slice sc lc cc, slv g' (M.length + 1) c', slv gx G.length cap6])) _ from ⟨_, _, _, _, _, _, _, _, _, _, _, _, _, rfl, fun w2 hn hK _ hl2 => HmpF.out _ _ _ hK hl2 (HM11.out _ hn hK), He6⟩)
    clear Hr6 He6 Hg6
    clear HBx HT8 HE10 HO10 HZ10 HO11 HZ11 HM11
    go_wp2_with fail
    refine bodyPost_ret (v := .agg #[.slice sp P.length cp, .slice sc lc cc, slv g' (M.length + 1) c', slv gx G.length cap6]) (by simp [results, Tryz.results25, go_sem, r0, r1, r2, r3]) rfl Hres.out
   case refine_2 =>
    go_simp
    refine hK6 _ _ (d2.alloc _) ?_
    clear hK6
    have x6 := (Ext.refl w2).alloc (.cells #[slv gd P.length P.length] 30)
    have d6 : Ext W7 (w2.alloc (.cells #[slv gd P.length P.length] 30)) := d2.alloc _
    have HEc : Hid ((w2.alloc (.cells #[slv gd P.length P.length] 30)).cell? ⟨w2.heap.size, 0, none⟩ = some (slv gd P.length P.length)) := Lib.hid (by go_simp)
    have HD := Lib.hid (RowV.ext HD.out x6)
    have hga : ga ≠ w2.heap.size := Nat.ne_of_lt HAA.out.lt.2
    have HAA := Lib.hid (HAA.out.ext x6)
    clear x6
    generalize w2.heap.size = ge at *
    generalize hw6 : w2.alloc (.cells #[slv gd P.length P.length] 30) = w6 at *
    clear hw6
    refine wpAnyLH_oneI (i := 4) rfl (by kernel_rfl) inv (fun inv K9 hK9 => ?_)
    refine step_append_mat rfl _ _ rfl (B := W7.heap.size) rfl HAA.out rfl (HSm.out.ext (E7.out.trans d6)) HVm.out HOne.out (by omega) d6.size ?_
    intro gc cc9 w9 hOc hBc hGc
    have d9 : Ext W7 w9 := Below.trans d6 hBc
    refine hK9 _ _ d9 ?_
    clear hK9
    have HC := Lib.hid hOc
    have HD := Lib.hid (own_kept HD.out (HAA.out.row rfl) (by decide) hGc)
    have HEc := Lib.hid (grown_frozen_cell hGc (Ne.symm hga) HEc.out)
    clear hGc
    clear hOc hBc HAA
    refine wpAnyLH_oneI (i := 11) rfl (by kernel_rfl) inv (fun inv K10 hK10 => ?_)
    refine step_append_one rfl _ _ rfl (B := W7.heap.size) rfl HC.out HVm.out rfl HEc.out rfl (by omega) (d9.size) ?_
    intro g' c' w9 hO9 hB9 hG9
    have d9 : Ext W7 w9 := Below.trans d9 hB9
    have HZ9 := Lib.hid (own_kept HD.out (HC.out.row rfl) (by decide) hG9)
    refine hK10 _ _ d9 ?_
    clear hK10
    refine wpAnyLH_end (by kernel_rfl) ?_
    have HB9 := HA.out.ext d9
    obtain ⟨hA, gA⟩ := HB9.set 2 (slv g' (M.length + 1) c')
    simp only [List.set_cons_zero, List.set_cons_succ] at hA
    have f2 := HB9.frozen 2
    have m2 := HB9.cell (j := 2) (by simp)
    simp only [List.getElem_cons_zero, List.getElem_cons_succ] at m2
    have HE10 := Lib.hid (ext_trans_grown (E7.out.trans d9) gA (by rw [← Hb0.out]; exact Nat.le_refl _))
    have HT8 := Lib.hid ((HT7.out.ext d9).other gA (by have := Hb2.out; have := Hb0.out; omega))
    have HO10 := Lib.hid (show OwnV 30 W7.heap.size _ g' c' _ from OwnV.of_row (own_kept (hO9.row (n := M.length + 1) (by simp [HVm.out])) (HB9.row rfl) (by decide) gA))
    have HZ10 := Lib.hid (own_kept HZ9.out (HB9.row rfl) (by decide) gA)
    have HBx := Lib.hid hA
    clear hA gA hO9 hB9 hG9 HZ9 HC HD HEc HB9
    go_upto_region 16 with fail
    generalize w9.setCell ⟨b0, 2, none⟩ (slv g' (M.length + 1) c') = W8 at *
    clear m2 f2
    have Hs7 := Lib.hid (show b2 < W7.heap.size from HT7.out.lt.2)
    clear HA HT7 HX7 E7 HSm HOne
    have q0 := (HBx.out).cell (j := 0) (by simp); have q1 := (HBx.out).cell (j := 1) (by simp); have q2 := (HBx.out).cell (j := 2) (by simp); have q3 := (HBx.out).cell (j := 3) (by simp)
    simp only [List.getElem_cons_zero, List.getElem_cons_succ] at q0 q1 q2 q3
    obtain ⟨Hr6, He6, Hg6⟩ := set4 HE10.out (by have := Hb2.out; omega) HT8.out (.slice sp P.length cp) (.slice sc lc cc) (slv g' (M.length + 1) c') (slv gx G.length cap6)
    have r0 := Hr6.cell (j := 0) (by simp)
    have r1 := Hr6.cell (j := 1) (by simp)
    have r2 := Hr6.cell (j := 2) (by simp)
    have r3 := Hr6.cell (j := 3) (by simp)
    simp only [List.getElem_cons_zero, List.getElem_cons_succ] at r0 r1 r2 r3
    have f0 := (HT8.out).frozen 0
    have f1 := (HT8.out).frozen 1
    have f2 := (HT8.out).frozen 2
    have f3 := (HT8.out).frozen 3
    have m0 := (HT8.out).cell (j := 0) (by simp)
    have m1 := (HT8.out).cell (j := 1) (by simp)
    have m2 := (HT8.out).cell (j := 2) (by simp)
    have m3 := (HT8.out).cell (j := 3) (by simp)
    simp only [List.getElem_cons_zero, List.getElem_cons_succ] at m0 m1 m2 m3
    have HO11 := Lib.hid (HO10.out.other Hg6 (by have := Hs7.out; have := HO10.out.lt.1; omega))
    have HZ11 := Lib.hid (own_kept HZ10.out (HT8.out.row rfl) (by decide) Hg6)
    have HM11 := Lib.hid (fun w2 (hn : Nr _ w2) (hK : Kp w w2) => show MatR w2 (slv g' (M.length + 1) c') (M ++ [List.replicate P.length 0]) by
     have HM := mat_of_own (M := M ++ [List.replicate P.length 0]) (HO11.out.nr (by decide) hn) (by simp [HVm.out]) (fun i h h' => by
      rcases Nat.lt_or_ge i M.length with hi | hi
      ·rw [List.getElem_append_left (by rw [HVm.out]; exact hi), List.getElem_append_left hi]
       exact hK.row _ _ (HRm.out i hi (by rw [HVm.out]; exact hi))
      ·have hie : i = M.length := by simp at h; omega
       subst hie
       rw [List.getElem_append_right (by rw [HVm.out]; exact Nat.le_refl _), List.getElem_append_right (Nat.le_refl _)]
       simp only [HVm.out, Nat.sub_self, List.getElem_cons_zero]
       exact RowV.row (rowV_nr HZ11.out hn))
     simp only [List.length_append, List.length_cons, List.length_nil, Nat.zero_add] at HM
     exact HM)
    have Hres := Lib.hid (show SpoPost w (.slice ss L.length cs) L (.returned (.agg #[.slice sp P.length cp, .slice sc lc cc, slv g' (M.length + 1) c', slv gx G.length cap6])) _ from ⟨_, _, _, _, _, _, _, _, _, _, _, _, _, rfl, fun w2 hn hK _ hl2 => HmpF.out _ _ _ hK hl2 (HM11.out _ hn hK), He6⟩)
    clear Hr6 He6 Hg6
    clear HBx HT8 HE10 HO10 HZ10 HO11 HZ11 HM11
    go_wp2_with fail
    refine bodyPost_ret (v := .agg #[.slice sp P.length cp, .slice sc lc cc, slv g' (M.length + 1) c', slv gx G.length cap6]) (by simp [results, Tryz.results25, go_sem, r0, r1, r2, r3]) rfl Hres.out
 case refine_2 =>
  refine step_make_row rfl _ _ rfl rfl rfl (by omega) ?_
  intro w1 hOd hGd
  have x1 : Ext X5 w1 := ext_grown hGd
  have d1 := dd.trans x1
  refine hK1 _ _ d1 ?_
  clear hK1
  have HD := Lib.hid (RowV.mono hOd dd.size)
  generalize X5.heap.size = gd at *
  clear hOd hGd x1
  refine wpAnyLH_twoII (i := 0) (j := 10) rfl rfl (by kernel_rfl) inv (fun inv K11 hK11 => ?_) (fun inv K11 hK11 => ?_)
  case refine_1 =>
   go_simp
   refine hK11 _ _ (d1.alloc _) ?_
   clear hK11
   have d11 : Ext W7 (w1.alloc (.cells #[] 30)) := d1.alloc _
   have HAA := Lib.hid (show OwnV 30 W7.heap.size (w1.alloc (.cells #[] 30)) w1.heap.size 0 [] from (show OwnV 30 w1.heap.size (w1.alloc (.cells #[] 30)) w1.heap.size 0 [] from OwnV.of (Nat.le_refl _) Array.getElem?_push_size (Nat.le_refl _) (Nat.zero_le _) rfl rfl).mono d1.size)
   have HD := Lib.hid (RowV.ext HD.out ((Ext.refl w1).alloc (.cells #[] 30)))
   generalize w1.heap.size = ga at *
   generalize hw11 : w1.alloc (.cells #[] 30) = w11 at *
   clear hw11
   refine wpAnyLH_twoII (i := 4) (j := 10) rfl rfl (by kernel_rfl) inv (fun inv K12 hK12 => ?_) (fun inv K12 hK12 => ?_)
   case refine_1 =>
    refine step_append_mat rfl _ _ rfl (B := W7.heap.size) rfl HAA.out rfl (HSm.out.ext (E7.out.trans d11)) HVm.out HOne.out (by omega) d11.size ?_
    intro gc cc9 w12 hOc hBc hGc
    have d12 : Ext W7 w12 := Below.trans d11 hBc
    refine hK12 _ _ d12 ?_
    clear hK12
    have HC := Lib.hid hOc
    have HD := Lib.hid (own_kept HD.out (HAA.out.row rfl) (by decide) hGc)
    clear hGc
    clear hOc hBc HAA
    refine wpAnyLH_oneI (i := 10) rfl (by kernel_rfl) inv (fun inv K13 hK13 => ?_)
    go_simp
    refine hK13 _ _ (d12.alloc _) ?_
    clear hK13
    have x13 := (Ext.refl w12).alloc (.cells #[slv gd P.length P.length] 30)
    have d13 : Ext W7 (w12.alloc (.cells #[slv gd P.length P.length] 30)) := d12.alloc _
    have HEc : Hid ((w12.alloc (.cells #[slv gd P.length P.length] 30)).cell? ⟨w12.heap.size, 0, none⟩ = some (slv gd P.length P.length)) := Lib.hid (by go_simp)
    have HD := Lib.hid (RowV.ext HD.out x13)
    have HC := Lib.hid (HC.out.ext x13)
    clear x13
    generalize w12.heap.size = ge at *
    generalize hw13 : w12.alloc (.cells #[slv gd P.length P.length] 30) = w13 at *
    clear hw13
    refine wpAnyLH_oneI (i := 11) rfl (by kernel_rfl) inv (fun inv K14 hK14 => ?_)
    refine step_append_one rfl _ _ rfl (B := W7.heap.size) rfl HC.out HVm.out rfl HEc.out rfl (by omega) (d13.size) ?_
    intro g' c' w9 hO9 hB9 hG9
    have d9 : Ext W7 w9 := Below.trans d13 hB9
    have HZ9 := Lib.hid (own_kept HD.out (HC.out.row rfl) (by decide) hG9)
    refine hK14 _ _ d9 ?_
    clear hK14
    refine wpAnyLH_end (by kernel_rfl) ?_
    have HB9 := HA.out.ext d9
    obtain ⟨hA, gA⟩ := HB9.set 2 (slv g' (M.length + 1) c')
    simp only [List.set_cons_zero, List.set_cons_succ] at hA
    have f2 := HB9.frozen 2
    have m2 := HB9.cell (j := 2) (by simp)
    simp only [List.getElem_cons_zero, List.getElem_cons_succ] at m2
    have HE10 := Lib.hid (ext_trans_grown (E7.out.trans d9) gA (by rw [← Hb0.out]; exact Nat.le_refl _))
    have HT8 := Lib.hid ((HT7.out.ext d9).other gA (by have := Hb2.out; have := Hb0.out; omega))
    have HO10 := Lib.hid (show OwnV 30 W7.heap.size _ g' c' _ from OwnV.of_row (own_kept (hO9.row (n := M.length + 1) (by simp [HVm.out])) (HB9.row rfl) (by decide) gA))
    have HZ10 := Lib.hid (own_kept HZ9.out (HB9.row rfl) (by decide) gA)
    have HBx := Lib.hid hA
    clear hA gA hO9 hB9 hG9 HZ9 HC HD HEc HB9
    go_upto_region 16 with fail
    generalize w9.setCell ⟨b0, 2, none⟩ (slv g' (M.length + 1) c') = W8 at *
    clear m2 f2
    have Hs7 := Lib.hid (show b2 < W7.heap.size from HT7.out.lt.2)
    clear HA HT7 HX7 E7 HSm HOne
    have q0 := (HBx.out).cell (j := 0) (by simp); have q1 := (HBx.out).cell (j := 1) (by simp); have q2 := (HBx.out).cell (j := 2) (by simp); have q3 := (HBx.out).cell (j := 3) (by simp)
    simp only [List.getElem_cons_zero, List.getElem_cons_succ] at q0 q1 q2 q3
    obtain ⟨Hr6, He6, Hg6⟩ := set4 HE10.out (by have := Hb2.out; omega) HT8.out (.slice sp P.length cp) (.slice sc lc cc) (slv g' (M.length + 1) c') (slv gx G.length cap6)
    have r0 := Hr6.cell (j := 0) (by simp)
    have r1 := Hr6.cell (j := 1) (by simp)
    have r2 := Hr6.cell (j := 2) (by simp)
    have r3 := Hr6.cell (j := 3) (by simp)
    simp only [List.getElem_cons_zero, List.getElem_cons_succ] at r0 r1 r2 r3
    have f0 := (HT8.out).frozen 0
    have f1 := (HT8.out).frozen 1
    have f2 := (HT8.out).frozen 2
    have f3 := (HT8.out).frozen 3
    have m0 := (HT8.out).cell (j := 0) (by simp)
    have m1 := (HT8.out).cell (j := 1) (by simp)
    have m2 := (HT8.out).cell (j := 2) (by simp)
    have m3 := (HT8.out).cell (j := 3) (by simp)
    simp only [List.getElem_cons_zero, List.getElem_cons_succ] at m0 m1 m2 m3
    have HO11 := Lib.hid (HO10.out.other Hg6 (by have := Hs7.out; have := HO10.out.lt.1; omega))
    have HZ11 := Lib.hid (own_kept HZ10.out (HT8.out.row rfl) (by decide) Hg6)
    have HM11 := Lib.hid (fun w2 (hn : Nr _ w2) (hK : Kp w w2) => show MatR w2 (slv g' (M.length + 1) c') (M ++ [List.replicate P.length 0]) by
     have HM := mat_of_own (M := M ++ [List.replicate P.length 0]) (HO11.out.nr (by decide) hn) (by simp [HVm.out]) (fun i h h' => by
      rcases Nat.lt_or_ge i M.length with hi | hi
      ·rw [List.getElem_append_left (by rw [HVm.out]; exact hi), List.getElem_append_left hi]
       exact hK.row _ _ (HRm.out i hi (by rw [HVm.out]; exact hi))
      ·have hie : i = M.length := by simp at h; omega
       subst hie
       rw [List.getElem_append_right (by rw [HVm.out]; exact Nat.le_refl _), List.getElem_append_right (Nat.le_refl _)]
       simp only [HVm.out, Nat.sub_self, List.getElem_cons_zero]
       exact RowV.row (rowV_nr HZ11.out hn))
     simp only [List.length_append, List.length_cons, List.length_nil, Nat.zero_add] at HM
     exact HM)
    have Hres := Lib.hid (show SpoPost w (.slice ss L.length cs) L (.returned (.agg #[.slice sp P.length cp, .slice sc lc cc, slv g' (M.length + 1) c', slv gx G.length cap6])) _ from ⟨_, _, _, _, _, _, _, _, _, _, _, _, _, rfl, fun w2 hn hK _ hl2 => HmpF.out _ _ _ hK hl2 (HM11.out _ hn hK), He6⟩)
    clear Hr6 He6 Hg6
    clear HBx HT8 HE10 HO10 HZ10 HO11 HZ11 HM11
    go_wp2_with fail
    refine bodyPost_ret (v := .agg #[.slice sp P.length cp, .slice sc lc cc, slv g' (M.length + 1) c', slv gx G.length cap6]) (by simp [results, Tryz.results25, go_sem, r0, r1, r2, r3]) rfl Hres.out
   case refine_2 =>
    go_simp
    refine hK12 _ _ (d11.alloc _) ?_
    clear hK12
    have x12 := (Ext.refl w11).alloc (.cells #[slv gd P.length P.length] 30)
    have d12 : Ext W7 (w11.alloc (.cells #[slv gd P.length P.length] 30)) := d11.alloc _
    have HEc : Hid ((w11.alloc (.cells #[slv gd P.length P.length] 30)).cell? ⟨w11.heap.size, 0, none⟩ = some (slv gd P.length P.length)) := Lib.hid (by go_simp)
    have HD := Lib.hid (RowV.ext HD.out x12)
    have hga : ga ≠ w11.heap.size := Nat.ne_of_lt HAA.out.lt.2
    have HAA := Lib.hid (HAA.out.ext x12)
    clear x12
    generalize w11.heap.size = ge at *
    generalize hw12 : w11.alloc (.cells #[slv gd P.length P.length] 30) = w12 at *
    clear hw12
    refine wpAnyLH_oneI (i := 4) rfl (by kernel_rfl) inv (fun inv K15 hK15 => ?_)
    refine step_append_mat rfl _ _ rfl (B := W7.heap.size) rfl HAA.out rfl (HSm.out.ext (E7.out.trans d12)) HVm.out HOne.out (by omega) d12.size ?_
    intro gc cc9 w15 hOc hBc hGc
    have d15 : Ext W7 w15 := Below.trans d12 hBc
    refine hK15 _ _ d15 ?_
    clear hK15
    have HC := Lib.hid hOc
    have HD := Lib.hid (own_kept HD.out (HAA.out.row rfl) (by decide) hGc)
    have HEc := Lib.hid (grown_frozen_cell hGc (Ne.symm hga) HEc.out)
    clear hGc
    clear hOc hBc HAA
    refine wpAnyLH_oneI (i := 11) rfl (by kernel_rfl) inv (fun inv K16 hK16 => ?_)
    refine step_append_one rfl _ _ rfl (B := W7.heap.size) rfl HC.out HVm.out rfl HEc.out rfl (by omega) (d15.size) ?_
    intro g' c' w9 hO9 hB9 hG9
    have d9 : Ext W7 w9 := Below.trans d15 hB9
    have HZ9 := Lib.hid (own_kept HD.out (HC.out.row rfl) (by decide) hG9)
    refine hK16 _ _ d9 ?_
    clear hK16
    refine wpAnyLH_end (by kernel_rfl) ?_
    have HB9 := HA.out.ext d9
    obtain ⟨hA, gA⟩ := HB9.set 2 (slv g' (M.length + 1) c')
    simp only [List.set_cons_zero, List.set_cons_succ] at hA
    have f2 := HB9.frozen 2
    have m2 := HB9.cell (j := 2) (by simp)
    simp only [List.getElem_cons_zero, List.getElem_cons_succ] at m2
    have HE10 := Lib.hid (ext_trans_grown (E7.out.trans d9) gA (by rw [← Hb0.out]; exact Nat.le_refl _))
    have HT8 := Lib.hid ((HT7.out.ext d9).other gA (by have := Hb2.out; have := Hb0.out; omega))
    have HO10 := Lib.hid (show OwnV 30 W7.heap.size _ g' c' _ from OwnV.of_row (own_kept (hO9.row (n := M.length + 1) (by simp [HVm.out])) (HB9.row rfl) (by decide) gA))
    have HZ10 := Lib.hid (own_kept HZ9.out (HB9.row rfl) (by decide) gA)
    have HBx := Lib.hid hA
    clear hA gA hO9 hB9 hG9 HZ9 HC HD HEc HB9
    go_upto_region 16 with fail
    generalize w9.setCell ⟨b0, 2, none⟩ (slv g' (M.length + 1) c') = W8 at *
    clear m2 f2
    have Hs7 := Lib.hid (show b2 < W7.heap.size from HT7.out.lt.2)
    clear HA HT7 HX7 E7 HSm HOne
    have q0 := (HBx.out).cell (j := 0) (by simp); have q1 := (HBx.out).cell (j := 1) (by simp); have q2 := (HBx.out).cell (j := 2) (by simp); have q3 := (HBx.out).cell (j := 3) (by simp)
    simp only [List.getElem_cons_zero, List.getElem_cons_succ] at q0 q1 q2 q3
    obtain ⟨Hr6, He6, Hg6⟩ := set4 HE10.out (by have := Hb2.out; omega) HT8.out (.slice sp P.length cp) (.slice sc lc cc) (slv g' (M.length + 1) c') (slv gx G.length cap6)
    have r0 := Hr6.cell (j := 0) (by simp)
    have r1 := Hr6.cell (j := 1) (by simp)
    have r2 := Hr6.cell (j := 2) (by simp)
    have r3 := Hr6.cell (j := 3) (by simp)
    simp only [List.getElem_cons_zero, List.getElem_cons_succ] at r0 r1 r2 r3
    have f0 := (HT8.out).frozen 0
    have f1 := (HT8.out).frozen 1
    have f2 := (HT8.out).frozen 2
    have f3 := (HT8.out).frozen 3
    have m0 := (HT8.out).cell (j := 0) (by simp)
    have m1 := (HT8.out).cell (j := 1) (by simp)
    have m2 := (HT8.out).cell (j := 2) (by simp)
    have m3 := (HT8.out).cell (j := 3) (by simp)
    simp only [List.getElem_cons_zero, List.getElem_cons_succ] at m0 m1 m2 m3
    have HO11 := Lib.hid (HO10.out.other Hg6 (by have := Hs7.out; have := HO10.out.lt.1; omega))
    have HZ11 := Lib.hid (own_kept HZ10.out (HT8.out.row rfl) (by decide) Hg6)
    have HM11 := Lib.hid (fun w2 (hn : Nr _ w2) (hK : Kp w w2) => show MatR w2 (slv g' (M.length + 1) c') (M ++ [List.replicate P.length 0]) by
     have HM := mat_of_own (M := M ++ [List.replicate P.length 0]) (HO11.out.nr (by decide) hn) (by simp [HVm.out]) (fun i h h' => by
      rcases Nat.lt_or_ge i M.length with hi | hi
      ·rw [List.getElem_append_left (by rw [HVm.out]; exact hi), List.getElem_append_left hi]
       exact hK.row _ _ (HRm.out i hi (by rw [HVm.out]; exact hi))
      ·have hie : i = M.length := by simp at h; omega
       subst hie
       rw [List.getElem_append_right (by rw [HVm.out]; exact Nat.le_refl _), List.getElem_append_right (Nat.le_refl _)]
       simp only [HVm.out, Nat.sub_self, List.getElem_cons_zero]
       exact RowV.row (rowV_nr HZ11.out hn))
     simp only [List.length_append, List.length_cons, List.length_nil, Nat.zero_add] at HM
     exact HM)
    have Hres := Lib.hid (show SpoPost w (.slice ss L.length cs) L (.returned (.agg #[.slice sp P.length cp, .slice sc lc cc, slv g' (M.length + 1) c', slv gx G.length cap6])) _ from ⟨_, _, _, _, _, _, _, _, _, _, _, _, _, rfl, fun w2 hn hK _ hl2 => HmpF.out _ _ _ hK hl2 (HM11.out _ hn hK), He6⟩)
    clear Hr6 He6 Hg6
    clear HBx HT8 HE10 HO10 HZ10 HO11 HZ11 HM11
    go_wp2_with fail
    refine bodyPost_ret (v := .agg #[.slice sp P.length cp, .slice sc lc cc, slv g' (M.length + 1) c', slv gx G.length cap6]) (by simp [results, Tryz.results25, go_sem, r0, r1, r2, r3]) rfl Hres.out
  case refine_2 =>
   go_simp
   refine hK11 _ _ (d1.alloc _) ?_
   clear hK11
   have x11 := (Ext.refl w1).alloc (.cells #[slv gd P.length P.length] 30)
   have d11 : Ext W7 (w1.alloc (.cells #[slv gd P.length P.length] 30)) := d1.alloc _
   have HEc : Hid ((w1.alloc (.cells #[slv gd P.length P.length] 30)).cell? ⟨w1.heap.size, 0, none⟩ = some (slv gd P.length P.length)) := Lib.hid (by go_simp)
   have HD := Lib.hid (RowV.ext HD.out x11)
   clear x11
   generalize w1.heap.size = ge at *
   generalize hw11 : w1.alloc (.cells #[slv gd P.length P.length] 30) = w11 at *
   clear hw11
   refine wpAnyLH_oneI (i := 0) rfl (by kernel_rfl) inv (fun inv K17 hK17 => ?_)
   go_simp
   refine hK17 _ _ (d11.alloc _) ?_
   clear hK17
   have d17 : Ext W7 (w11.alloc (.cells #[] 30)) := d11.alloc _
   have HAA := Lib.hid (show OwnV 30 W7.heap.size (w11.alloc (.cells #[] 30)) w11.heap.size 0 [] from (show OwnV 30 w11.heap.size (w11.alloc (.cells #[] 30)) w11.heap.size 0 [] from OwnV.of (Nat.le_refl _) Array.getElem?_push_size (Nat.le_refl _) (Nat.zero_le _) rfl rfl).mono d11.size)
   have HD := Lib.hid (RowV.ext HD.out ((Ext.refl w11).alloc (.cells #[] 30)))
   have hga : w11.heap.size ≠ ge := Nat.ne_of_gt (World.block_lt_of_cell? _ _ HEc.out)
   have HEc := Lib.hid (((Ext.refl w11).alloc (.cells #[] 30)).cell HEc.out)
   generalize w11.heap.size = ga at *
   generalize hw17 : w11.alloc (.cells #[] 30) = w17 at *
   clear hw17
   refine wpAnyLH_oneI (i := 4) rfl (by kernel_rfl) inv (fun inv K18 hK18 => ?_)
   refine step_append_mat rfl _ _ rfl (B := W7.heap.size) rfl HAA.out rfl (HSm.out.ext (E7.out.trans d17)) HVm.out HOne.out (by omega) d17.size ?_
   intro gc cc9 w18 hOc hBc hGc
   have d18 : Ext W7 w18 := Below.trans d17 hBc
   refine hK18 _ _ d18 ?_
   clear hK18
   have HC := Lib.hid hOc
   have HD := Lib.hid (own_kept HD.out (HAA.out.row rfl) (by decide) hGc)
   have HEc := Lib.hid (grown_frozen_cell hGc (Ne.symm hga) HEc.out)
   clear hGc
   clear hOc hBc HAA
   refine wpAnyLH_oneI (i := 11) rfl (by kernel_rfl) inv (fun inv K19 hK19 => ?_)
   refine step_append_one rfl _ _ rfl (B := W7.heap.size) rfl HC.out HVm.out rfl HEc.out rfl (by omega) (d18.size) ?_
   intro g' c' w9 hO9 hB9 hG9
   have d9 : Ext W7 w9 := Below.trans d18 hB9
   have HZ9 := Lib.hid (own_kept HD.out (HC.out.row rfl) (by decide) hG9)
   refine hK19 _ _ d9 ?_
   clear hK19
   refine wpAnyLH_end (by kernel_rfl) ?_
   have HB9 := HA.out.ext d9
   obtain ⟨hA, gA⟩ := HB9.set 2 (slv g' (M.length + 1) c')
   simp only [List.set_cons_zero, List.set_cons_succ] at hA
   have f2 := HB9.frozen 2
   have m2 := HB9.cell (j := 2) (by simp)
   simp only [List.getElem_cons_zero, List.getElem_cons_succ] at m2
   have HE10 := Lib.hid (ext_trans_grown (E7.out.trans d9) gA (by rw [← Hb0.out]; exact Nat.le_refl _))
   have HT8 := Lib.hid ((HT7.out.ext d9).other gA (by have := Hb2.out; have := Hb0.out; omega))
   have HO10 := Lib.hid (show OwnV 30 W7.heap.size _ g' c' _ from OwnV.of_row (own_kept (hO9.row (n := M.length + 1) (by simp [HVm.out])) (HB9.row rfl) (by decide) gA))
   have HZ10 := Lib.hid (own_kept HZ9.out (HB9.row rfl) (by decide) gA)
   have HBx := Lib.hid hA
   clear hA gA hO9 hB9 hG9 HZ9 HC HD HEc HB9
   go_upto_region 16 with fail
   generalize w9.setCell ⟨b0, 2, none⟩ (slv g' (M.length + 1) c') = W8 at *
   clear m2 f2
   have Hs7 := Lib.hid (show b2 < W7.heap.size from HT7.out.lt.2)
   clear HA HT7 HX7 E7 HSm HOne
   have q0 := (HBx.out).cell (j := 0) (by simp); have q1 := (HBx.out).cell (j := 1) (by simp); have q2 := (HBx.out).cell (j := 2) (by simp); have q3 := (HBx.out).cell (j := 3) (by simp)
   simp only [List.getElem_cons_zero, List.getElem_cons_succ] at q0 q1 q2 q3
   obtain ⟨Hr6, He6, Hg6⟩ := set4 HE10.out (by have := Hb2.out; omega) HT8.out (.slice sp P.length cp) (.slice sc lc cc) (slv g' (M.length + 1) c') (slv gx G.length cap6)
   have r0 := Hr6.cell (j := 0) (by simp)
   have r1 := Hr6.cell (j := 1) (by simp)
   have r2 := Hr6.cell (j := 2) (by simp)
   have r3 := Hr6.cell (j := 3) (by simp)
   simp only [List.getElem_cons_zero, List.getElem_cons_succ] at r0 r1 r2 r3
   have f0 := (HT8.out).frozen 0
   have f1 := (HT8.out).frozen 1
   have f2 := (HT8.out).frozen 2
   have f3 := (HT8.out).frozen 3
   have m0 := (HT8.out).cell (j := 0) (by simp)
   have m1 := (HT8.out).cell (j := 1) (by simp)
   have m2 := (HT8.out).cell (j := 2) (by simp)
   have m3 := (HT8.out).cell (j := 3) (by simp)
   simp only [List.getElem_cons_zero, List.getElem_cons_succ] at m0 m1 m2 m3
   have HO11 := Lib.hid (HO10.out.other Hg6 (by have := Hs7.out; have := HO10.out.lt.1; omega))
   have HZ11 := Lib.hid (own_kept HZ10.out (HT8.out.row rfl) (by decide) Hg6)
   have HM11 := Lib.hid (fun w2 (hn : Nr _ w2) (hK : Kp w w2) => show MatR w2 (slv g' (M.length + 1) c') (M ++ [List.replicate P.length 0]) by
    have HM := mat_of_own (M := M ++ [List.replicate P.length 0]) (HO11.out.nr (by decide) hn) (by simp [HVm.out]) (fun i h h' => by
     rcases Nat.lt_or_ge i M.length with hi | hi
     ·rw [List.getElem_append_left (by rw [HVm.out]; exact hi), List.getElem_append_left hi]
      exact hK.row _ _ (HRm.out i hi (by rw [HVm.out]; exact hi))
     ·have hie : i = M.length := by simp at h; omega
      subst hie
      rw [List.getElem_append_right (by rw [HVm.out]; exact Nat.le_refl _), List.getElem_append_right (Nat.le_refl _)]
      simp only [HVm.out, Nat.sub_self, List.getElem_cons_zero]
      exact RowV.row (rowV_nr HZ11.out hn))
    simp only [List.length_append, List.length_cons, List.length_nil, Nat.zero_add] at HM
    exact HM)
   have Hres := Lib.hid (show SpoPost w (.slice ss L.length cs) L (.returned (.agg #[.slice sp P.length cp, .slice sc lc cc, slv g' (M.length + 1) c', slv gx G.length cap6])) _ from ⟨_, _, _, _, _, _, _, _, _, _, _, _, _, rfl, fun w2 hn hK _ hl2 => HmpF.out _ _ _ hK hl2 (HM11.out _ hn hK), He6⟩)
   clear Hr6 He6 Hg6
   clear HBx HT8 HE10 HO10 HZ10 HO11 HZ11 HM11
   go_wp2_with fail
   refine bodyPost_ret (v := .agg #[.slice sp P.length cp, .slice sc lc cc, slv g' (M.length + 1) c', slv gx G.length cap6]) (by simp [results, Tryz.results25, go_sem, r0, r1, r2, r3]) rfl Hres.out
set_option maxHeartbeats 8000000 in
theorem spl0 {w : World} {P : List Int} {C M : Mx} {G : List (List Rat)} {sp : Option Addr} {cp : Nat} {sc : Option Addr} {lc cc : Nat} {sm : Option Addr} {lm cm : Nat} {sg : Option Addr} {lg cg : Nat} {hw : Int} {ss : Option Addr} {cs : Nat} {L : List (List UInt8 × List UInt8)} (h : TuV w P C M G sp cp sc lc cc sm lm cm sg lg cg) (hk : hw % 6 = 0) (hh : 0 ≤ hw ∧ hw < 256) (hs : SzT w (.slice ss L.length cs) L) (hb : ∀ p ∈ L, p.1.length ≤ 1000000 ∧ p.2.length ≤ 1000000) (hL : Laid w) :
    Calls Tryz.prog 25 #[tuS P sp cp sc lc cc sm lm cm sg lg cg, .agg #[.int .u8 hw, .slice ss L.length cs]] w (SpoPost w (.slice ss L.length cs) L) := by
  have hlm := h.lgl
  obtain ⟨hT, hG, hln, hcl, hsh⟩ := h
  have hp4 := hT.ok.p4
  have hm4 := hT.m4
  have hlg := hG.len
  have hg4 : G.length ≤ 4 := by omega
  subst hlg
  have HT := Lib.hid hT
  have HG := Lib.hid hG
  have HL := Lib.hid hL
  have Hln := Lib.hid hln
  have Hlm := Lib.hid hlm
  have Hcl := Lib.hid hcl
  have Hsh := Lib.hid hsh
  have Hst := Lib.hid hs
  have Hb := Lib.hid hb
  obtain ⟨sg', gg, go, cg', vs, eg, hgc, hvl, hS, hr⟩ := hG
  injection eg with q1 q2 q3
  clear q2
  subst q1 q3
  have HS := Lib.hid hS
  have HV := Lib.hid hvl
  have HR := Lib.hid hr
  have hX := (((Ext.refl w).alloc (.cells #[.slice sp P.length cp, .slice sc lc cc, .slice sm lm cm, .slice sg G.length cg] 67)).alloc (.cells #[.int .u8 hw, .slice ss L.length cs] 62)).alloc (.cells #[.slice none 0 0, .slice none 0 0, .slice none 0 0, .slice none 0 0] 67)
  have HckF := Lib.hid (fun W gx cap6 (hK : Kp w W) (hl : Laid W) (ho : OwnV 60 (w.heap.size + 3) W gx cap6 vs) => spo_gn (lg := G.length) (sg := some ⟨gx, 0, none⟩) (cg := cap6) (HT.out.kp hK) hl Hlm.out (GnR.txt ⟨_, gx, 0, cap6, vs, rfl, by have := ho.cap; rw [HV.out] at this; exact this, HV.out, ho.sl, fun i a b => hK.siz _ _ (HR.out i a b)⟩ |> fun h => by simpa using h) (fun K hK => by
    obtain ⟨l, hl, rfl⟩ := List.mem_map.1 hK
    exact txQ_len (Hsh.out l hl)) (by simp; omega))
  have HO0 := ((own4 w 67 (.slice sp P.length cp) (.slice sc lc cc) (.slice sm lm cm) (.slice sg G.length cg)).ext ((Ext.refl _).alloc (.cells #[.int .u8 hw, .slice ss L.length cs] 62))).ext ((Ext.refl _).alloc (.cells #[.slice none 0 0, .slice none 0 0, .slice none 0 0, .slice none 0 0] 67))
  have HO2 := own4 ((w.alloc (.cells #[.slice sp P.length cp, .slice sc lc cc, .slice sm lm cm, .slice sg G.length cg] 67)).alloc (.cells #[.int .u8 hw, .slice ss L.length cs] 62)) 67 (.slice none 0 0) (.slice none 0 0) (.slice none 0 0) (.slice none 0 0)
  have y0 : (((w.alloc (.cells #[.slice sp P.length cp, .slice sc lc cc, .slice sm lm cm, .slice sg G.length cg] 67)).alloc (.cells #[.int .u8 hw, .slice ss L.length cs] 62)).alloc (.cells #[.slice none 0 0, .slice none 0 0, .slice none 0 0, .slice none 0 0] 67)).cell? ⟨w.heap.size + 1, 0, none⟩ = some (.int .u8 hw) := by go_simp
  have y1 : (((w.alloc (.cells #[.slice sp P.length cp, .slice sc lc cc, .slice sm lm cm, .slice sg G.length cg] 67)).alloc (.cells #[.int .u8 hw, .slice ss L.length cs] 62)).alloc (.cells #[.slice none 0 0, .slice none 0 0, .slice none 0 0, .slice none 0 0] 67)).cell? ⟨w.heap.size + 1, 1, none⟩ = some (.slice ss L.length cs) := by go_simp
  rw [show ((w.alloc (.cells #[.slice sp P.length cp, .slice sc lc cc, .slice sm lm cm, .slice sg G.length cg] 67)).alloc (.cells #[.int .u8 hw, .slice ss L.length cs] 62)).heap.size = w.heap.size + 2 by simp] at HO2
  have hDs : (((w.alloc (.cells #[.slice sp P.length cp, .slice sc lc cc, .slice sm lm cm, .slice sg G.length cg] 67)).alloc (.cells #[.int .u8 hw, .slice ss L.length cs] 62)).alloc (.cells #[.slice none 0 0, .slice none 0 0, .slice none 0 0, .slice none 0 0] 67)).heap.size = w.heap.size + 3 := by simp
  clear hT hL hln hcl hsh hS hr hvl hs hb hlm
  have x3 : ((((w.alloc (.cells #[.slice sp P.length cp, .slice sc lc cc, .slice sm lm cm, .slice sg G.length cg] 67)).alloc (.cells #[.int .u8 hw, .slice ss L.length cs] 62)).alloc (.cells #[.slice none 0 0, .slice none 0 0, .slice none 0 0, .slice none 0 0] 67)).alloc (.cells #[] 60)).cell? ⟨w.heap.size, 3, none⟩ = some (.slice sg G.length cg) := by go_simp
  have eZ : Ext (((w.alloc (.cells #[.slice sp P.length cp, .slice sc lc cc, .slice sm lm cm, .slice sg G.length cg] 67)).alloc (.cells #[.int .u8 hw, .slice ss L.length cs] 62)).alloc (.cells #[.slice none 0 0, .slice none 0 0, .slice none 0 0, .slice none 0 0] 67)) ((((w.alloc (.cells #[.slice sp P.length cp, .slice sc lc cc, .slice sm lm cm, .slice sg G.length cg] 67)).alloc (.cells #[.int .u8 hw, .slice ss L.length cs] 62)).alloc (.cells #[.slice none 0 0, .slice none 0 0, .slice none 0 0, .slice none 0 0] 67)).alloc (.cells #[] 60)) := (Ext.refl _).alloc _
  have HOe : OwnV 60 (w.heap.size + 3) ((((w.alloc (.cells #[.slice sp P.length cp, .slice sc lc cc, .slice sm lm cm, .slice sg G.length cg] 67)).alloc (.cells #[.int .u8 hw, .slice ss L.length cs] 62)).alloc (.cells #[.slice none 0 0, .slice none 0 0, .slice none 0 0, .slice none 0 0] 67)).alloc (.cells #[] 60)) (w.heap.size + 3) 0 [] := by
    have h0 : OwnV 60 (((w.alloc (.cells #[.slice sp P.length cp, .slice sc lc cc, .slice sm lm cm, .slice sg G.length cg] 67)).alloc (.cells #[.int .u8 hw, .slice ss L.length cs] 62)).alloc (.cells #[.slice none 0 0, .slice none 0 0, .slice none 0 0, .slice none 0 0] 67)).heap.size ((((w.alloc (.cells #[.slice sp P.length cp, .slice sc lc cc, .slice sm lm cm, .slice sg G.length cg] 67)).alloc (.cells #[.int .u8 hw, .slice ss L.length cs] 62)).alloc (.cells #[.slice none 0 0, .slice none 0 0, .slice none 0 0, .slice none 0 0] 67)).alloc (.cells #[] 60)) (((w.alloc (.cells #[.slice sp P.length cp, .slice sc lc cc, .slice sm lm cm, .slice sg G.length cg] 67)).alloc (.cells #[.int .u8 hw, .slice ss L.length cs] 62)).alloc (.cells #[.slice none 0 0, .slice none 0 0, .slice none 0 0, .slice none 0 0] 67)).heap.size 0 [] := OwnV.of (Nat.le_refl _) Array.getElem?_push_size (Nat.le_refl _) (Nat.zero_le _) rfl rfl
    rw [hDs] at h0; exact h0
  have HSz := Lib.hid (HS.out.ext (hX.trans eZ))
  replace HO0 := Lib.hid HO0
  replace HO2 := Lib.hid HO2
  replace HOe := Lib.hid HOe
  have Hy0 := Lib.hid y0
  have Hy1 := Lib.hid y1
  replace eZ := Lib.hid eZ
  have HDs := Lib.hid hDs
  have HOne := Lib.hid (show ∀ u ∈ vs, u.oneCell' = true from fun u hu => by
    obtain ⟨j, hj, rfl⟩ := List.getElem_of_mem hu
    obtain ⟨xa, xc, ex⟩ := szR_slc (HR.out j (by have := HV.out; omega) hj)
    rw [ex]; rfl)
  obtain ⟨s0, hs, hy0, hy1, hy2⟩ := info_parts Tryz.infoSz
  replace hX := Lib.hid hX
  clear y0 y1 hDs
  go_enter Tryz.func25, Tryz.ntmps25
  go_upto_region 2 with (at_builtin; (refine wpList_spread rfl _ _ 65 rfl (w.heap.size + 3) 60 s0 _ 24 Tryz.underlying65 hs hy0 hy1 hy2 rfl (w.heap.size + 3) rfl HOe.out sg gg go G.length cg vs rfl HV.out HSz.out HOne.out (by omega) (by unfold maxLen; omega) (by simp) ?_; intro gx cap6 w6 hown6 hgrow6; have E6 : Ext (((w.alloc (.cells #[.slice sp P.length cp, .slice sc lc cc, .slice sm lm cm, .slice sg G.length cg] 67)).alloc (.cells #[.int .u8 hw, .slice ss L.length cs] 62)).alloc (.cells #[.slice none 0 0, .slice none 0 0, .slice none 0 0, .slice none 0 0] 67)) w6 := Ext.mk' (Below.grown eZ.out hgrow6 eZ.out.size (fun q hq => by rw [HDs.out]; exact (World.ownsRow.lt HOe.out q hq).1)); have HO6 := HO0.out.ext E6; have HT6 := Lib.hid (HO2.out.ext E6); have Hz0 := Lib.hid (E6.cell Hy0.out); have Hz1 := Lib.hid (E6.cell Hy1.out); have HE6 := Lib.hid (hX.out.trans E6); have HX6 := Lib.hid hown6; have e0 := HO6.cell (j := 3) (by simp); simp only [List.getElem_cons_zero, List.getElem_cons_succ] at e0; have f0 := HO6.frozen 3; obtain ⟨hA, gA⟩ := OwnV.set HO6 3 (slv gx G.length cap6); simp only [List.set_cons_zero, List.set_cons_succ] at hA; have E7 := ext_trans_grown HE6.out gA (Nat.le_refl _); have hsz6 := HT6.out.lt.2; have z0 := (gA.cell_far ⟨w.heap.size + 1, 0, none⟩ (show w.heap.size + 1 < _ by omega) (by simp)).trans Hz0.out; have z1 := (gA.cell_far ⟨w.heap.size + 1, 1, none⟩ (show w.heap.size + 1 < _ by omega) (by simp)).trans Hz1.out; have HT7 := Lib.hid (HT6.out.other gA (by omega)); have hgx := HX6.out.lt; have HX7 := Lib.hid (HX6.out.other gA (by omega)); have hgx2 := hgx.1; have q3 := hA.cell (j := 3) (by simp); simp only [List.getElem_cons_zero, List.getElem_cons_succ] at q3; have HA := Lib.hid hA; replace E7 := Lib.hid E7; clear x3 hgrow6 E6 HO0 HO2 Hy0 Hy1 HSz HOe eZ hX hown6 hgx HX6 HT6 Hz0 Hz1 HE6 hA gA hsz6 HO6))
  generalize w6.setCell ⟨w.heap.size, 3, none⟩ (slv gx G.length cap6) = W7 at *
  clear e0 f0 hs hy0 hy1 hy2 HOne HDs
  obtain ⟨b2, hb2⟩ : ∃ b, b = w.heap.size + 2 := ⟨_, rfl⟩
  rw [show w.heap.size + 1 + 1 = b2 from hb2.symm]
  rw [← hb2] at HT7
  obtain ⟨b1, hb1⟩ : ∃ b, b = w.heap.size + 1 := ⟨_, rfl⟩
  rw [← hb1] at z0 z1 ⊢
  obtain ⟨b0, hb0⟩ : ∃ b, b = w.heap.size := ⟨_, rfl⟩
  rw [← hb0] at HA HX7 hgx2 q3 ⊢
  have Hb0 := Lib.hid hb0
  have Hb1 := Lib.hid hb1
  have Hb2 := Lib.hid hb2
  have Hgx := Lib.hid hgx2
  clear hb0 hb1 hb2 hgx2
  clear HckF
  have Hne := Lib.hid (show G.length + 1 ≠ lm by have := Hlm.out; omega)
  have HY8 := Lib.hid (HX7.out.ext ((Ext.refl W7).alloc (.cells #[.slice ss L.length cs] 60)))
  have eZ := Lib.hid ((Ext.refl W7).alloc (.cells #[.slice ss L.length cs] 60))
  obtain ⟨s0, hs, hy0, hy1, hy2⟩ := info_parts Tryz.infoSz
  go_upto_region 5 with fail
  go_upto_region 16 with (at_builtin; first
    | (refine wpList_append_lies _ rfl _ _ 65 rfl (b0 + 3) 60 s0 _ 1 24 Tryz.underlying65 hs hy0 hy1 hy2 rfl (by omega) (slv gx G.length cap6) G.length vs rfl (HY8.out.row HV.out) ⟨W7.heap.size, 0, none⟩ 1 1 [.slice ss L.length cs] rfl rfl (World.news_of_block Array.getElem?_push_size) (by simp [Value.oneCell']) (by omega) (by unfold maxLen; omega) (by omega) (by have := HY8.out.lt; omega) (W7.heap.size + 1) (by simp) ?_
       intro gz cz w9 hown9 hgrow9 hat9 hlt9
       have E9 := Lib.hid (show Below (b0 + 3) W7 w9 from Below.grown (eZ.out.mono (by have := HX7.out.lt; omega)) hgrow9 (by have := HY8.out.lt; omega) (fun q hq => (World.ownsRow.lt HY8.out q hq).1))
       have HA9 := HA.out.below E9.out (by have := Hb0.out; omega)
       have HT9 := HT7.out.below E9.out (by have := Hb2.out; have := Hb0.out; omega)
       have m3 := HA9.cell (j := 3) (by simp)
       simp only [List.getElem_cons_zero, List.getElem_cons_succ] at m3
       have f3 := HA9.frozen 3
       obtain ⟨hA, gA⟩ := OwnV.set HA9 3 (slv gz (G.length + 1) cz)
       simp only [List.set_cons_zero, List.set_cons_succ] at hA
       have E10 := Lib.hid (ext_trans_grown (show Ext w w9 from Below.trans E7.out (E9.out.mono (by have := Hb0.out; omega))) gA (by rw [← Hb0.out]; exact Nat.le_refl _))
       have HT8 := Lib.hid (HT9.other gA (by have := Hb2.out; have := Hb0.out; omega))
       have HA8 := Lib.hid hA
       clear hown9 hgrow9 hat9 hlt9 HA9 HT9 hA gA HA HT7 E7 E9 HY8 HX7 eZ hs hy0 hy1 hy2))
  generalize w9.setCell ⟨b0, 3, none⟩ (slv gz (G.length + 1) cz) = W8 at *
  clear m3 f3 q3 z0 z1
  have q0 := (HA8.out).cell (j := 0) (by simp); have q1 := (HA8.out).cell (j := 1) (by simp); have q2 := (HA8.out).cell (j := 2) (by simp); have q3 := (HA8.out).cell (j := 3) (by simp)
  simp only [List.getElem_cons_zero, List.getElem_cons_succ] at q0 q1 q2 q3
  obtain ⟨Hr6, He6, Hg6⟩ := set4 E10.out (by have := Hb2.out; omega) HT8.out (.slice sp P.length cp) (.slice sc lc cc) (.slice sm lm cm) (slv gz (G.length + 1) cz)
  have r0 := Hr6.cell (j := 0) (by simp)
  have r1 := Hr6.cell (j := 1) (by simp)
  have r2 := Hr6.cell (j := 2) (by simp)
  have r3 := Hr6.cell (j := 3) (by simp)
  simp only [List.getElem_cons_zero, List.getElem_cons_succ] at r0 r1 r2 r3
  have f0 := (HT8.out).frozen 0
  have f1 := (HT8.out).frozen 1
  have f2 := (HT8.out).frozen 2
  have f3 := (HT8.out).frozen 3
  have m0 := (HT8.out).cell (j := 0) (by simp)
  have m1 := (HT8.out).cell (j := 1) (by simp)
  have m2 := (HT8.out).cell (j := 2) (by simp)
  have m3 := (HT8.out).cell (j := 3) (by simp)
  simp only [List.getElem_cons_zero, List.getElem_cons_succ] at m0 m1 m2 m3
  have Hres := Lib.hid (show SpoPost w (.slice ss L.length cs) L (.returned (.agg #[.slice sp P.length cp, .slice sc lc cc, .slice sm lm cm, slv gz (G.length + 1) cz])) _ from ⟨_, _, _, _, _, _, _, _, _, _, _, _, _, rfl, fun w2 _ hK _ hl2 => spo_ln (HT.out.kp hK) hl2 Hne.out, He6⟩)
  clear Hr6 He6 Hg6
  clear HA8 HT8 E10
  go_wp2_with fail
  refine bodyPost_ret (v := .agg #[.slice sp P.length cp, .slice sc lc cc, .slice sm lm cm, slv gz (G.length + 1) cz]) (by simp [results, Tryz.results25, go_sem, r0, r1, r2, r3]) rfl Hres.out
set_option maxHeartbeats 8000000 in
theorem spl4 {w : World} {P : List Int} {C M : Mx} {G : List (List Rat)} {sp : Option Addr} {cp : Nat} {sc : Option Addr} {lc cc : Nat} {sm : Option Addr} {lm cm : Nat} {sg : Option Addr} {lg cg : Nat} {hw : Int} {ss : Option Addr} {cs : Nat} {L : List (List UInt8 × List UInt8)} (h : TuV w P C M G sp cp sc lc cc sm lm cm sg lg cg) (hk : hw % 6 = 4) (hh : 0 ≤ hw ∧ hw < 256) (hs : SzT w (.slice ss L.length cs) L) (hb : ∀ p ∈ L, p.1.length ≤ 1000000 ∧ p.2.length ≤ 1000000) (hL : Laid w) :
    Calls Tryz.prog 25 #[tuS P sp cp sc lc cc sm lm cm sg lg cg, .agg #[.int .u8 hw, .slice ss L.length cs]] w (SpoPost w (.slice ss L.length cs) L) := by
  have hlm := h.lgl
  obtain ⟨hT, hG, hln, hcl, hsh⟩ := h
  have hp4 := hT.ok.p4
  have hm4 := hT.m4
  have hlg := hG.len
  have hg4 : G.length ≤ 4 := by omega
  subst hlg
  have HT := Lib.hid hT
  have HG := Lib.hid hG
  have HL := Lib.hid hL
  have Hln := Lib.hid hln
  have Hlm := Lib.hid hlm
  have Hcl := Lib.hid hcl
  have Hsh := Lib.hid hsh
  have Hst := Lib.hid hs
  have Hb := Lib.hid hb
  obtain ⟨sg', gg, go, cg', vs, eg, hgc, hvl, hS, hr⟩ := hG
  injection eg with q1 q2 q3
  clear q2
  subst q1 q3
  have HS := Lib.hid hS
  have HV := Lib.hid hvl
  have HR := Lib.hid hr
  have hX := (((Ext.refl w).alloc (.cells #[.slice sp P.length cp, .slice sc lc cc, .slice sm lm cm, .slice sg G.length cg] 67)).alloc (.cells #[.int .u8 hw, .slice ss L.length cs] 62)).alloc (.cells #[.slice none 0 0, .slice none 0 0, .slice none 0 0, .slice none 0 0] 67)
  have HckF := Lib.hid (fun W gx cap6 (hK : Kp w W) (hl : Laid W) (ho : OwnV 60 (w.heap.size + 3) W gx cap6 vs) => spo_gn (lg := G.length) (sg := some ⟨gx, 0, none⟩) (cg := cap6) (HT.out.kp hK) hl Hlm.out (GnR.txt ⟨_, gx, 0, cap6, vs, rfl, by have := ho.cap; rw [HV.out] at this; exact this, HV.out, ho.sl, fun i a b => hK.siz _ _ (HR.out i a b)⟩ |> fun h => by simpa using h) (fun K hK => by
    obtain ⟨l, hl, rfl⟩ := List.mem_map.1 hK
    exact txQ_len (Hsh.out l hl)) (by simp; omega))
  have HO0 := ((own4 w 67 (.slice sp P.length cp) (.slice sc lc cc) (.slice sm lm cm) (.slice sg G.length cg)).ext ((Ext.refl _).alloc (.cells #[.int .u8 hw, .slice ss L.length cs] 62))).ext ((Ext.refl _).alloc (.cells #[.slice none 0 0, .slice none 0 0, .slice none 0 0, .slice none 0 0] 67))
  have HO2 := own4 ((w.alloc (.cells #[.slice sp P.length cp, .slice sc lc cc, .slice sm lm cm, .slice sg G.length cg] 67)).alloc (.cells #[.int .u8 hw, .slice ss L.length cs] 62)) 67 (.slice none 0 0) (.slice none 0 0) (.slice none 0 0) (.slice none 0 0)
  have y0 : (((w.alloc (.cells #[.slice sp P.length cp, .slice sc lc cc, .slice sm lm cm, .slice sg G.length cg] 67)).alloc (.cells #[.int .u8 hw, .slice ss L.length cs] 62)).alloc (.cells #[.slice none 0 0, .slice none 0 0, .slice none 0 0, .slice none 0 0] 67)).cell? ⟨w.heap.size + 1, 0, none⟩ = some (.int .u8 hw) := by go_simp
  have y1 : (((w.alloc (.cells #[.slice sp P.length cp, .slice sc lc cc, .slice sm lm cm, .slice sg G.length cg] 67)).alloc (.cells #[.int .u8 hw, .slice ss L.length cs] 62)).alloc (.cells #[.slice none 0 0, .slice none 0 0, .slice none 0 0, .slice none 0 0] 67)).cell? ⟨w.heap.size + 1, 1, none⟩ = some (.slice ss L.length cs) := by go_simp
  rw [show ((w.alloc (.cells #[.slice sp P.length cp, .slice sc lc cc, .slice sm lm cm, .slice sg G.length cg] 67)).alloc (.cells #[.int .u8 hw, .slice ss L.length cs] 62)).heap.size = w.heap.size + 2 by simp] at HO2
  have hDs : (((w.alloc (.cells #[.slice sp P.length cp, .slice sc lc cc, .slice sm lm cm, .slice sg G.length cg] 67)).alloc (.cells #[.int .u8 hw, .slice ss L.length cs] 62)).alloc (.cells #[.slice none 0 0, .slice none 0 0, .slice none 0 0, .slice none 0 0] 67)).heap.size = w.heap.size + 3 := by simp
  clear hT hL hln hcl hsh hS hr hvl hs hb hlm
  have x3 : ((((w.alloc (.cells #[.slice sp P.length cp, .slice sc lc cc, .slice sm lm cm, .slice sg G.length cg] 67)).alloc (.cells #[.int .u8 hw, .slice ss L.length cs] 62)).alloc (.cells #[.slice none 0 0, .slice none 0 0, .slice none 0 0, .slice none 0 0] 67)).alloc (.cells #[] 60)).cell? ⟨w.heap.size, 3, none⟩ = some (.slice sg G.length cg) := by go_simp
  have eZ : Ext (((w.alloc (.cells #[.slice sp P.length cp, .slice sc lc cc, .slice sm lm cm, .slice sg G.length cg] 67)).alloc (.cells #[.int .u8 hw, .slice ss L.length cs] 62)).alloc (.cells #[.slice none 0 0, .slice none 0 0, .slice none 0 0, .slice none 0 0] 67)) ((((w.alloc (.cells #[.slice sp P.length cp, .slice sc lc cc, .slice sm lm cm, .slice sg G.length cg] 67)).alloc (.cells #[.int .u8 hw, .slice ss L.length cs] 62)).alloc (.cells #[.slice none 0 0, .slice none 0 0, .slice none 0 0, .slice none 0 0] 67)).alloc (.cells #[] 60)) := (Ext.refl _).alloc _
  have HOe : OwnV 60 (w.heap.size + 3) ((((w.alloc (.cells #[.slice sp P.length cp, .slice sc lc cc, .slice sm lm cm, .slice sg G.length cg] 67)).alloc (.cells #[.int .u8 hw, .slice ss L.length cs] 62)).alloc (.cells #[.slice none 0 0, .slice none 0 0, .slice none 0 0, .slice none 0 0] 67)).alloc (.cells #[] 60)) (w.heap.size + 3) 0 [] := by
    have h0 : OwnV 60 (((w.alloc (.cells #[.slice sp P.length cp, .slice sc lc cc, .slice sm lm cm, .slice sg G.length cg] 67)).alloc (.cells #[.int .u8 hw, .slice ss L.length cs] 62)).alloc (.cells #[.slice none 0 0, .slice none 0 0, .slice none 0 0, .slice none 0 0] 67)).heap.size ((((w.alloc (.cells #[.slice sp P.length cp, .slice sc lc cc, .slice sm lm cm, .slice sg G.length cg] 67)).alloc (.cells #[.int .u8 hw, .slice ss L.length cs] 62)).alloc (.cells #[.slice none 0 0, .slice none 0 0, .slice none 0 0, .slice none 0 0] 67)).alloc (.cells #[] 60)) (((w.alloc (.cells #[.slice sp P.length cp, .slice sc lc cc, .slice sm lm cm, .slice sg G.length cg] 67)).alloc (.cells #[.int .u8 hw, .slice ss L.length cs] 62)).alloc (.cells #[.slice none 0 0, .slice none 0 0, .slice none 0 0, .slice none 0 0] 67)).heap.size 0 [] := OwnV.of (Nat.le_refl _) Array.getElem?_push_size (Nat.le_refl _) (Nat.zero_le _) rfl rfl
    rw [hDs] at h0; exact h0
  have HSz := Lib.hid (HS.out.ext (hX.trans eZ))
  replace HO0 := Lib.hid HO0
  replace HO2 := Lib.hid HO2
  replace HOe := Lib.hid HOe
  have Hy0 := Lib.hid y0
  have Hy1 := Lib.hid y1
  replace eZ := Lib.hid eZ
  have HDs := Lib.hid hDs
  have HOne := Lib.hid (show ∀ u ∈ vs, u.oneCell' = true from fun u hu => by
    obtain ⟨j, hj, rfl⟩ := List.getElem_of_mem hu
    obtain ⟨xa, xc, ex⟩ := szR_slc (HR.out j (by have := HV.out; omega) hj)
    rw [ex]; rfl)
  obtain ⟨s0, hs, hy0, hy1, hy2⟩ := info_parts Tryz.infoSz
  replace hX := Lib.hid hX
  clear y0 y1 hDs
  go_enter Tryz.func25, Tryz.ntmps25
  go_upto_region 2 with (at_builtin; (refine wpList_spread rfl _ _ 65 rfl (w.heap.size + 3) 60 s0 _ 24 Tryz.underlying65 hs hy0 hy1 hy2 rfl (w.heap.size + 3) rfl HOe.out sg gg go G.length cg vs rfl HV.out HSz.out HOne.out (by omega) (by unfold maxLen; omega) (by simp) ?_; intro gx cap6 w6 hown6 hgrow6; have E6 : Ext (((w.alloc (.cells #[.slice sp P.length cp, .slice sc lc cc, .slice sm lm cm, .slice sg G.length cg] 67)).alloc (.cells #[.int .u8 hw, .slice ss L.length cs] 62)).alloc (.cells #[.slice none 0 0, .slice none 0 0, .slice none 0 0, .slice none 0 0] 67)) w6 := Ext.mk' (Below.grown eZ.out hgrow6 eZ.out.size (fun q hq => by rw [HDs.out]; exact (World.ownsRow.lt HOe.out q hq).1)); have HO6 := HO0.out.ext E6; have HT6 := Lib.hid (HO2.out.ext E6); have Hz0 := Lib.hid (E6.cell Hy0.out); have Hz1 := Lib.hid (E6.cell Hy1.out); have HE6 := Lib.hid (hX.out.trans E6); have HX6 := Lib.hid hown6; have e0 := HO6.cell (j := 3) (by simp); simp only [List.getElem_cons_zero, List.getElem_cons_succ] at e0; have f0 := HO6.frozen 3; obtain ⟨hA, gA⟩ := OwnV.set HO6 3 (slv gx G.length cap6); simp only [List.set_cons_zero, List.set_cons_succ] at hA; have E7 := ext_trans_grown HE6.out gA (Nat.le_refl _); have hsz6 := HT6.out.lt.2; have z0 := (gA.cell_far ⟨w.heap.size + 1, 0, none⟩ (show w.heap.size + 1 < _ by omega) (by simp)).trans Hz0.out; have z1 := (gA.cell_far ⟨w.heap.size + 1, 1, none⟩ (show w.heap.size + 1 < _ by omega) (by simp)).trans Hz1.out; have HT7 := Lib.hid (HT6.out.other gA (by omega)); have hgx := HX6.out.lt; have HX7 := Lib.hid (HX6.out.other gA (by omega)); have hgx2 := hgx.1; have q3 := hA.cell (j := 3) (by simp); simp only [List.getElem_cons_zero, List.getElem_cons_succ] at q3; have HA := Lib.hid hA; replace E7 := Lib.hid E7; clear x3 hgrow6 E6 HO0 HO2 Hy0 Hy1 HSz HOe eZ hX hown6 hgx HX6 HT6 Hz0 Hz1 HE6 hA gA hsz6 HO6))
  generalize w6.setCell ⟨w.heap.size, 3, none⟩ (slv gx G.length cap6) = W7 at *
  clear e0 f0 hs hy0 hy1 hy2 HOne HDs
  obtain ⟨b2, hb2⟩ : ∃ b, b = w.heap.size + 2 := ⟨_, rfl⟩
  rw [show w.heap.size + 1 + 1 = b2 from hb2.symm]
  rw [← hb2] at HT7
  obtain ⟨b1, hb1⟩ : ∃ b, b = w.heap.size + 1 := ⟨_, rfl⟩
  rw [← hb1] at z0 z1 ⊢
  obtain ⟨b0, hb0⟩ : ∃ b, b = w.heap.size := ⟨_, rfl⟩
  rw [← hb0] at HA HX7 hgx2 q3 ⊢
  have Hb0 := Lib.hid hb0
  have Hb1 := Lib.hid hb1
  have Hb2 := Lib.hid hb2
  have Hgx := Lib.hid hgx2
  clear hb0 hb1 hb2 hgx2
  clear HckF
  go_upto_region 15 with fail
  have hp0 := HT.out.ok.p0
  obtain ⟨sp', gp, gop, cpp, ep, hcp, hSp⟩ := HT.out.hP
  injection ep with r1 r2 r3
  clear r2
  subst r1 r3
  have HZp := Lib.hid ((hSp.ext E7.out).ext ((Ext.refl W7).alloc (.cells #[] 3)))
  have HOi := Lib.hid (show ∀ u ∈ is P, u.oneCell' = true from fun u hu => by
    obtain ⟨y, _, rfl⟩ := List.mem_map.1 hu
    rfl)
  have HOe := Lib.hid (show OwnV 3 W7.heap.size (W7.alloc (.cells #[] 3)) W7.heap.size 0 [] from OwnV.of (Nat.le_refl _) Array.getElem?_push_size (Nat.le_refl _) (Nat.zero_le _) rfl rfl)
  have eZ := Lib.hid ((Ext.refl W7).alloc (.cells #[] 3))
  have q0 := HA.out.cell (j := 0) (by simp)
  simp only [List.getElem_cons_zero] at q0
  have q0 := eZ.out.cell q0
  obtain ⟨s0, hs, hy0, hy1, hy2⟩ := info_parts Tryz.infoInt
  clear hSp q3 z0 z1
  go_upto_region 16 with (at_builtin; first
    | (refine wpList_spread rfl _ _ 31 rfl W7.heap.size 3 s0 _ 8 Tryz.underlying31 hs hy0 hy1 hy2 rfl W7.heap.size rfl HOe.out sp gp gop P.length cp (is P) rfl (is_length P) HZp.out HOi.out (by omega) (by unfold maxLen; omega) (by simp) ?_
       intro gy cy w8 hown8 hgrow8
       have E8 := Lib.hid (show Ext W7 w8 from Ext.mk' (Below.grown eZ.out hgrow8 eZ.out.size (fun q hq => (World.ownsRow.lt HOe.out q hq).1)))
       have HY8 := Lib.hid (hown8.ext ((Ext.refl w8).alloc (.cells #[.int .i64 1] 3)))
       clear hown8 hgrow8 HOe eZ HZp HOi q0)
    | (refine wpList_append_lies _ rfl _ _ 31 rfl W7.heap.size 3 s0 _ 1 8 Tryz.underlying31 hs hy0 hy1 hy2 rfl (by omega) (slv gy P.length cy) P.length (is P) rfl (HY8.out.row (is_length P)) ⟨w8.heap.size, 0, none⟩ 1 1 [.int .i64 1] rfl rfl (World.news_of_block Array.getElem?_push_size) (by simp [Value.oneCell']) (by omega) (by unfold maxLen; omega) (by omega) (by have := E8.out.size; simp; omega) (w8.heap.size + 1) (by simp) ?_
       intro gz cz w9 hown9 hgrow9 hat9 hlt9
       have E9 := Lib.hid (show Ext W7 w9 from Ext.mk' (Below.grown (E8.out.trans ((Ext.refl w8).alloc _)) hgrow9 (by have := E8.out.size; simp; omega) (fun q hq => (World.ownsRow.lt HY8.out q hq).1)))
       have HA9 := HA.out.ext E9.out
       have m0 := HA9.cell (j := 0) (by simp)
       simp only [List.getElem_cons_zero] at m0
       have f0 := HA9.frozen 0
       obtain ⟨hA, gA⟩ := OwnV.set HA9 0 (slv gz (P.length + 1) cz)
       simp only [List.set_cons_zero] at hA
       have hbs := HA.out.lt.2
       have E10 := Lib.hid (ext_trans_grown (E7.out.trans E9.out) gA (by rw [← Hb0.out]; exact Nat.le_refl _))
       have HT8 := Lib.hid ((HT7.out.ext E9.out).other gA (by have := Hb2.out; have := Hb0.out; omega))
       have HZ9 := Lib.hid (show OwnV 3 W7.heap.size w9 gz cz (is P ++ [.int .i64 1]) from OwnV.of_row (by simpa [is_length] using hown9))
       have HZ10 := Lib.hid (HZ9.out.other gA (by have := HZ9.out.lt.1; omega))
       have Hgz := Lib.hid (show b2 < gz by have := HT7.out.lt.2; have := HZ9.out.lt.1; omega)
       have HA8 := Lib.hid hA
       clear hown9 hgrow9 hat9 hlt9 HA9 hA gA HA HT7 E7 E8 E9 HZ9 HY8 HX7 hs hy0 hy1 hy2))
  generalize w9.setCell ⟨b0, 0, none⟩ (slv gz (P.length + 1) cz) = W8 at *
  clear m0 f0
  have q0 := (HA8.out).cell (j := 0) (by simp); have q1 := (HA8.out).cell (j := 1) (by simp); have q2 := (HA8.out).cell (j := 2) (by simp); have q3 := (HA8.out).cell (j := 3) (by simp)
  simp only [List.getElem_cons_zero, List.getElem_cons_succ] at q0 q1 q2 q3
  obtain ⟨Hr6, He6, Hg6⟩ := set4 E10.out (by have := Hb2.out; omega) HT8.out (slv gz (P.length + 1) cz) (.slice sc lc cc) (.slice sm lm cm) (slv gx G.length cap6)
  have r0 := Hr6.cell (j := 0) (by simp)
  have r1 := Hr6.cell (j := 1) (by simp)
  have r2 := Hr6.cell (j := 2) (by simp)
  have r3 := Hr6.cell (j := 3) (by simp)
  simp only [List.getElem_cons_zero, List.getElem_cons_succ] at r0 r1 r2 r3
  have f0 := (HT8.out).frozen 0
  have f1 := (HT8.out).frozen 1
  have f2 := (HT8.out).frozen 2
  have f3 := (HT8.out).frozen 3
  have m0 := (HT8.out).cell (j := 0) (by simp)
  have m1 := (HT8.out).cell (j := 1) (by simp)
  have m2 := (HT8.out).cell (j := 2) (by simp)
  have m3 := (HT8.out).cell (j := 3) (by simp)
  simp only [List.getElem_cons_zero, List.getElem_cons_succ] at m0 m1 m2 m3
  have HZ11 := HZ10.out.other Hg6 (by have := Hgz.out; omega)
  have Hres := Lib.hid (show SpoPost w (.slice ss L.length cs) L (.returned (.agg #[slv gz (P.length + 1) cz, .slice sc lc cc, .slice sm lm cm, slv gx G.length cap6])) _ from ⟨_, _, _, _, _, _, _, _, _, _, _, _, _, rfl, fun w2 hn hK _ hl2 => spo_pr (HT.out.kp hK) rfl (show RowR _ (.slice (some ⟨gz, 0, none⟩) (P.length + 1) cz) (P ++ [1]) from ⟨some ⟨gz, 0, none⟩, gz, 0, cz, by simp, by have := HZ11.cap; rw [List.length_append, is_length] at this; rw [List.length_append]; exact this, by have := (HZ11.nr (by decide) hn).sl; simp only [is, List.map_append, List.map_cons, List.map_nil] at this ⊢; exact this⟩), He6⟩)
  clear Hr6 He6 Hg6
  clear HA8 HT8 E10 HZ10
  go_wp2_with fail
  refine bodyPost_ret (v := .agg #[slv gz (P.length + 1) cz, .slice sc lc cc, .slice sm lm cm, slv gx G.length cap6]) (by simp [results, Tryz.results25, go_sem, r0, r1, r2, r3]) rfl Hres.out
set_option maxHeartbeats 8000000 in
theorem spl2 {w : World} {P : List Int} {C M : Mx} {G : List (List Rat)} {sp : Option Addr} {cp : Nat} {sc : Option Addr} {lc cc : Nat} {sm : Option Addr} {lm cm : Nat} {sg : Option Addr} {lg cg : Nat} {hw : Int} {ss : Option Addr} {cs : Nat} {L : List (List UInt8 × List UInt8)} (h : TuV w P C M G sp cp sc lc cc sm lm cm sg lg cg) (hk : hw % 6 = 2) (hh : 0 ≤ hw ∧ hw < 256) (hs : SzT w (.slice ss L.length cs) L) (hb : ∀ p ∈ L, p.1.length ≤ 1000000 ∧ p.2.length ≤ 1000000) (hL : Laid w) :
  Calls Tryz.prog 25 #[tuS P sp cp sc lc cc sm lm cm sg lg cg, .agg #[.int .u8 hw, .slice ss L.length cs]] w (SpoPost w (.slice ss L.length cs) L) := by
 have hlm := h.lgl
 obtain ⟨hT, hG, hln, hcl, hsh⟩ := h
 have hp4 := hT.ok.p4
 have hm4 := hT.m4
 have hlg := hG.len
 have hg4 : G.length ≤ 4 := by omega
 subst hlg
 have HT := Lib.hid hT
 have HG := Lib.hid hG
 have HL := Lib.hid hL
 have Hln := Lib.hid hln
 have Hlm := Lib.hid hlm
 have Hcl := Lib.hid hcl
 have Hsh := Lib.hid hsh
 have Hst := Lib.hid hs
 have Hb := Lib.hid hb
 obtain ⟨sg', gg, go, cg', vs, eg, hgc, hvl, hS, hr⟩ := hG
 injection eg with q1 q2 q3
 clear q2
 subst q1 q3
 have HS := Lib.hid hS
 have HV := Lib.hid hvl
 have HR := Lib.hid hr
 have hX := (((Ext.refl w).alloc (.cells #[.slice sp P.length cp, .slice sc lc cc, .slice sm lm cm, .slice sg G.length cg] 67)).alloc (.cells #[.int .u8 hw, .slice ss L.length cs] 62)).alloc (.cells #[.slice none 0 0, .slice none 0 0, .slice none 0 0, .slice none 0 0] 67)
 have HckF := Lib.hid (fun W gx cap6 (hK : Kp w W) (hl : Laid W) (ho : OwnV 60 (w.heap.size + 3) W gx cap6 vs) => spo_gn (lg := G.length) (sg := some ⟨gx, 0, none⟩) (cg := cap6) (HT.out.kp hK) hl Hlm.out (GnR.txt ⟨_, gx, 0, cap6, vs, rfl, by have := ho.cap; rw [HV.out] at this; exact this, HV.out, ho.sl, fun i a b => hK.siz _ _ (HR.out i a b)⟩ |> fun h => by simpa using h) (fun K hK => by
  obtain ⟨l, hl, rfl⟩ := List.mem_map.1 hK
  exact txQ_len (Hsh.out l hl)) (by simp; omega))
 have HO0 := ((own4 w 67 (.slice sp P.length cp) (.slice sc lc cc) (.slice sm lm cm) (.slice sg G.length cg)).ext ((Ext.refl _).alloc (.cells #[.int .u8 hw, .slice ss L.length cs] 62))).ext ((Ext.refl _).alloc (.cells #[.slice none 0 0, .slice none 0 0, .slice none 0 0, .slice none 0 0] 67))
 have HO2 := own4 ((w.alloc (.cells #[.slice sp P.length cp, .slice sc lc cc, .slice sm lm cm, .slice sg G.length cg] 67)).alloc (.cells #[.int .u8 hw, .slice ss L.length cs] 62)) 67 (.slice none 0 0) (.slice none 0 0) (.slice none 0 0) (.slice none 0 0)
 have y0 : (((w.alloc (.cells #[.slice sp P.length cp, .slice sc lc cc, .slice sm lm cm, .slice sg G.length cg] 67)).alloc (.cells #[.int .u8 hw, .slice ss L.length cs] 62)).alloc (.cells #[.slice none 0 0, .slice none 0 0, .slice none 0 0, .slice none 0 0] 67)).cell? ⟨w.heap.size + 1, 0, none⟩ = some (.int .u8 hw) := by go_simp
 have y1 : (((w.alloc (.cells #[.slice sp P.length cp, .slice sc lc cc, .slice sm lm cm, .slice sg G.length cg] 67)).alloc (.cells #[.int .u8 hw, .slice ss L.length cs] 62)).alloc (.cells #[.slice none 0 0, .slice none 0 0, .slice none 0 0, .slice none 0 0] 67)).cell? ⟨w.heap.size + 1, 1, none⟩ = some (.slice ss L.length cs) := by go_simp
 rw [show ((w.alloc (.cells #[.slice sp P.length cp, .slice sc lc cc, .slice sm lm cm, .slice sg G.length cg] 67)).alloc (.cells #[.int .u8 hw, .slice ss L.length cs] 62)).heap.size = w.heap.size + 2 by simp] at HO2
 have hDs : (((w.alloc (.cells #[.slice sp P.length cp, .slice sc lc cc, .slice sm lm cm, .slice sg G.length cg] 67)).alloc (.cells #[.int .u8 hw, .slice ss L.length cs] 62)).alloc (.cells #[.slice none 0 0, .slice none 0 0, .slice none 0 0, .slice none 0 0] 67)).heap.size = w.heap.size + 3 := by simp
 clear hT hL hln hcl hsh hS hr hvl hs hb hlm
 have x3 : ((((w.alloc (.cells #[.slice sp P.length cp, .slice sc lc cc, .slice sm lm cm, .slice sg G.length cg] 67)).alloc (.cells #[.int .u8 hw, .slice ss L.length cs] 62)).alloc (.cells #[.slice none 0 0, .slice none 0 0, .slice none 0 0, .slice none 0 0] 67)).alloc (.cells #[] 60)).cell? ⟨w.heap.size, 3, none⟩ = some (.slice sg G.length cg) := by go_simp
 have eZ : Ext (((w.alloc (.cells #[.slice sp P.length cp, .slice sc lc cc, .slice sm lm cm, .slice sg G.length cg] 67)).alloc (.cells #[.int .u8 hw, .slice ss L.length cs] 62)).alloc (.cells #[.slice none 0 0, .slice none 0 0, .slice none 0 0, .slice none 0 0] 67)) ((((w.alloc (.cells #[.slice sp P.length cp, .slice sc lc cc, .slice sm lm cm, .slice sg G.length cg] 67)).alloc (.cells #[.int .u8 hw, .slice ss L.length cs] 62)).alloc (.cells #[.slice none 0 0, .slice none 0 0, .slice none 0 0, .slice none 0 0] 67)).alloc (.cells #[] 60)) := (Ext.refl _).alloc _
 have HOe : OwnV 60 (w.heap.size + 3) ((((w.alloc (.cells #[.slice sp P.length cp, .slice sc lc cc, .slice sm lm cm, .slice sg G.length cg] 67)).alloc (.cells #[.int .u8 hw, .slice ss L.length cs] 62)).alloc (.cells #[.slice none 0 0, .slice none 0 0, .slice none 0 0, .slice none 0 0] 67)).alloc (.cells #[] 60)) (w.heap.size + 3) 0 [] := by
  have h0 : OwnV 60 (((w.alloc (.cells #[.slice sp P.length cp, .slice sc lc cc, .slice sm lm cm, .slice sg G.length cg] 67)).alloc (.cells #[.int .u8 hw, .slice ss L.length cs] 62)).alloc (.cells #[.slice none 0 0, .slice none 0 0, .slice none 0 0, .slice none 0 0] 67)).heap.size ((((w.alloc (.cells #[.slice sp P.length cp, .slice sc lc cc, .slice sm lm cm, .slice sg G.length cg] 67)).alloc (.cells #[.int .u8 hw, .slice ss L.length cs] 62)).alloc (.cells #[.slice none 0 0, .slice none 0 0, .slice none 0 0, .slice none 0 0] 67)).alloc (.cells #[] 60)) (((w.alloc (.cells #[.slice sp P.length cp, .slice sc lc cc, .slice sm lm cm, .slice sg G.length cg] 67)).alloc (.cells #[.int .u8 hw, .slice ss L.length cs] 62)).alloc (.cells #[.slice none 0 0, .slice none 0 0, .slice none 0 0, .slice none 0 0] 67)).heap.size 0 [] := OwnV.of (Nat.le_refl _) Array.getElem?_push_size (Nat.le_refl _) (Nat.zero_le _) rfl rfl
  rw [hDs] at h0; exact h0
 have HSz := Lib.hid (HS.out.ext (hX.trans eZ))
 replace HO0 := Lib.hid HO0
 replace HO2 := Lib.hid HO2
 replace HOe := Lib.hid HOe
 have Hy0 := Lib.hid y0
 have Hy1 := Lib.hid y1
 replace eZ := Lib.hid eZ
 have HDs := Lib.hid hDs
 have HOne := Lib.hid (show ∀ u ∈ vs, u.oneCell' = true from fun u hu => by
  obtain ⟨j, hj, rfl⟩ := List.getElem_of_mem hu
  obtain ⟨xa, xc, ex⟩ := szR_slc (HR.out j (by have := HV.out; omega) hj)
  rw [ex]; rfl)
 obtain ⟨s0, hs, hy0, hy1, hy2⟩ := info_parts Tryz.infoSz
 replace hX := Lib.hid hX
 clear y0 y1 hDs
 go_enter Tryz.func25, Tryz.ntmps25
 go_upto_region 2 with (at_builtin; (refine wpList_spread rfl _ _ 65 rfl (w.heap.size + 3) 60 s0 _ 24 Tryz.underlying65 hs hy0 hy1 hy2 rfl (w.heap.size + 3) rfl HOe.out sg gg go G.length cg vs rfl HV.out HSz.out HOne.out (by omega) (by unfold maxLen; omega) (by simp) ?_; intro gx cap6 w6 hown6 hgrow6; have E6 : Ext (((w.alloc (.cells #[.slice sp P.length cp, .slice sc lc cc, .slice sm lm cm, .slice sg G.length cg] 67)).alloc (.cells #[.int .u8 hw, .slice ss L.length cs] 62)).alloc (.cells #[.slice none 0 0, .slice none 0 0, .slice none 0 0, .slice none 0 0] 67)) w6 := Ext.mk' (Below.grown eZ.out hgrow6 eZ.out.size (fun q hq => by rw [HDs.out]; exact (World.ownsRow.lt HOe.out q hq).1)); have HO6 := HO0.out.ext E6; have HT6 := Lib.hid (HO2.out.ext E6); have Hz0 := Lib.hid (E6.cell Hy0.out); have Hz1 := Lib.hid (E6.cell Hy1.out); have HE6 := Lib.hid (hX.out.trans E6); have HX6 := Lib.hid hown6; have e0 := HO6.cell (j := 3) (by simp); simp only [List.getElem_cons_zero, List.getElem_cons_succ] at e0; have f0 := HO6.frozen 3; obtain ⟨hA, gA⟩ := OwnV.set HO6 3 (slv gx G.length cap6); simp only [List.set_cons_zero, List.set_cons_succ] at hA; have E7 := ext_trans_grown HE6.out gA (Nat.le_refl _); have hsz6 := HT6.out.lt.2; have z0 := (gA.cell_far ⟨w.heap.size + 1, 0, none⟩ (show w.heap.size + 1 < _ by omega) (by simp)).trans Hz0.out; have z1 := (gA.cell_far ⟨w.heap.size + 1, 1, none⟩ (show w.heap.size + 1 < _ by omega) (by simp)).trans Hz1.out; have HT7 := Lib.hid (HT6.out.other gA (by omega)); have hgx := HX6.out.lt; have HX7 := Lib.hid (HX6.out.other gA (by omega)); have hgx2 := hgx.1; have q3 := hA.cell (j := 3) (by simp); simp only [List.getElem_cons_zero, List.getElem_cons_succ] at q3; have HA := Lib.hid hA; replace E7 := Lib.hid E7; clear x3 hgrow6 E6 HO0 HO2 Hy0 Hy1 HSz HOe eZ hX hown6 hgx HX6 HT6 Hz0 Hz1 HE6 hA gA hsz6 HO6))
 generalize w6.setCell ⟨w.heap.size, 3, none⟩ (slv gx G.length cap6) = W7 at *
 clear e0 f0 hs hy0 hy1 hy2 HOne HDs
 obtain ⟨b2, hb2⟩ : ∃ b, b = w.heap.size + 2 := ⟨_, rfl⟩
 rw [show w.heap.size + 1 + 1 = b2 from hb2.symm]
 rw [← hb2] at HT7
 obtain ⟨b1, hb1⟩ : ∃ b, b = w.heap.size + 1 := ⟨_, rfl⟩
 rw [← hb1] at z0 z1 ⊢
 obtain ⟨b0, hb0⟩ : ∃ b, b = w.heap.size := ⟨_, rfl⟩
 rw [← hb0] at HA HX7 hgx2 q3 ⊢
 have Hb0 := Lib.hid hb0
 have Hb1 := Lib.hid hb1
 have Hb2 := Lib.hid hb2
 have Hgx := Lib.hid hgx2
 clear hb0 hb1 hb2 hgx2
 by_cases hn : 0 < G.length
 case neg =>
  have hni : ¬ (G.length : Int) > 0 := by omega
  clear hn
  have q0 := (HA.out).cell (j := 0) (by simp); have q1 := (HA.out).cell (j := 1) (by simp); have q2 := (HA.out).cell (j := 2) (by simp); have q3 := (HA.out).cell (j := 3) (by simp)
  simp only [List.getElem_cons_zero, List.getElem_cons_succ] at q0 q1 q2 q3
  obtain ⟨Hr6, He6, Hg6⟩ := set4 E7.out (by have := Hb2.out; omega) HT7.out (.slice sp P.length cp) (.slice sc lc cc) (.slice sm lm cm) (slv gx G.length cap6)
  have r0 := Hr6.cell (j := 0) (by simp)
  have r1 := Hr6.cell (j := 1) (by simp)
  have r2 := Hr6.cell (j := 2) (by simp)
  have r3 := Hr6.cell (j := 3) (by simp)
  simp only [List.getElem_cons_zero, List.getElem_cons_succ] at r0 r1 r2 r3
  have f0 := (HT7.out).frozen 0
  have f1 := (HT7.out).frozen 1
  have f2 := (HT7.out).frozen 2
  have f3 := (HT7.out).frozen 3
  have m0 := (HT7.out).cell (j := 0) (by simp)
  have m1 := (HT7.out).cell (j := 1) (by simp)
  have m2 := (HT7.out).cell (j := 2) (by simp)
  have m3 := (HT7.out).cell (j := 3) (by simp)
  simp only [List.getElem_cons_zero, List.getElem_cons_succ] at m0 m1 m2 m3
  have HX8 := HX7.out.other Hg6 (by have := Hb2.out; have := Hb0.out; have := Hgx.out; omega)
  have Hres := Lib.hid (show SpoPost w (.slice ss L.length cs) L (.returned (.agg #[.slice sp P.length cp, .slice sc lc cc, .slice sm lm cm, slv gx G.length cap6])) _ from ⟨_, _, _, _, _, _, _, _, _, _, _, _, _, rfl, fun w2 hn hK _ hl2 => HckF.out _ _ _ hK hl2 (OwnV.nr (by rw [← Hb0.out]; exact HX8) (by decide) hn), He6⟩)
  clear Hr6 He6 Hg6
  clear HX8 HckF HA HT7 E7 HX7
  go_wp2_with fail
  refine bodyPost_ret (v := .agg #[.slice sp P.length cp, .slice sc lc cc, .slice sm lm cm, slv gx G.length cap6]) (by simp [results, Tryz.results25, go_sem, r0, r1, r2, r3]) rfl Hres.out
 have hni : (G.length : Int) > 0 := by omega
 clear HckF
 obtain ⟨m, hm⟩ : ∃ m, m = G.length / 2 := ⟨_, rfl⟩
 have hq : (G.length : Int) / 2 = (m : Int) := by omega
 have hml : m < G.length := by omega
 have hmi : (m : Int) < (G.length : Int) := by omega
 have hmv : m < vs.length := by rw [HV.out]; exact hml
 have HckG := Lib.hid (fun W (hK : Kp w W) (hl : Laid W) (hs2 : SzT W (.slice ss L.length cs) L) (ho : OwnV 60 (w.heap.size + 3) W gx cap6 (vs.set m (.slice ss L.length cs))) => spo_gn (lg := G.length) (sg := some ⟨gx, 0, none⟩) (cg := cap6) (K := (G.map txQ).set m L) (HT.out.kp hK) hl Hlm.out ⟨_, gx, 0, cap6, vs.set m (.slice ss L.length cs), by simp, by have := ho.cap; simp [HV.out] at this; simpa using this, by simp [HV.out], ho.sl, fun i a b => by
  rw [List.getElem_set, List.getElem_set]
  split
  ·exact hs2
  ·have ha : i < G.length := by simpa using a
   have := (hK.siz _ _ (HR.out i ha (by rw [HV.out]; exact ha))).txt
   simpa using this⟩ (fun K hK => by
  rcases List.mem_or_eq_of_mem_set hK with h | rfl
  ·obtain ⟨l, hl, rfl⟩ := List.mem_map.1 h
   exact txQ_len (Hsh.out l hl)
  ·exact Hb.out) (by simp; omega))
 have hcm := HX7.out.cell (j := m) hmv
 generalize vs[m] = um at hcm
 have hfm := HX7.out.frozen m
 obtain ⟨hX, gX⟩ := OwnV.set HX7.out m (.slice ss L.length cs)
 have E8 := Lib.hid (ext_trans_grown E7.out gX (by have := Hgx.out; have := Hb0.out; omega))
 have HT8 := Lib.hid (HT7.out.other gX (by have := Hb2.out; have := Hb0.out; have := Hgx.out; omega))
 have HA8 := Lib.hid (HA.out.other gX (by have := Hb0.out; have := Hgx.out; omega))
 have HX8 := Lib.hid hX
 clear HA HT7 E7 HX7 hX gX hm hn hmv
 go_upto_region 16 with fail
 generalize W7.setCell ⟨gx, m, none⟩ (.slice ss L.length cs) = W8 at *
 clear hcm hfm q3 z0 z1 hni hq hml hmi
 have q0 := (HA8.out).cell (j := 0) (by simp); have q1 := (HA8.out).cell (j := 1) (by simp); have q2 := (HA8.out).cell (j := 2) (by simp); have q3 := (HA8.out).cell (j := 3) (by simp)
 simp only [List.getElem_cons_zero, List.getElem_cons_succ] at q0 q1 q2 q3
 obtain ⟨Hr6, He6, Hg6⟩ := set4 E8.out (by have := Hb2.out; omega) HT8.out (.slice sp P.length cp) (.slice sc lc cc) (.slice sm lm cm) (slv gx G.length cap6)
 have r0 := Hr6.cell (j := 0) (by simp)
 have r1 := Hr6.cell (j := 1) (by simp)
 have r2 := Hr6.cell (j := 2) (by simp)
 have r3 := Hr6.cell (j := 3) (by simp)
 simp only [List.getElem_cons_zero, List.getElem_cons_succ] at r0 r1 r2 r3
 have f0 := (HT8.out).frozen 0
 have f1 := (HT8.out).frozen 1
 have f2 := (HT8.out).frozen 2
 have f3 := (HT8.out).frozen 3
 have m0 := (HT8.out).cell (j := 0) (by simp)
 have m1 := (HT8.out).cell (j := 1) (by simp)
 have m2 := (HT8.out).cell (j := 2) (by simp)
 have m3 := (HT8.out).cell (j := 3) (by simp)
 simp only [List.getElem_cons_zero, List.getElem_cons_succ] at m0 m1 m2 m3
 have HX9 := HX8.out.other Hg6 (by have := Hb2.out; have := Hb0.out; have := Hgx.out; omega)
 have Hres := Lib.hid (show SpoPost w (.slice ss L.length cs) L (.returned (.agg #[.slice sp P.length cp, .slice sc lc cc, .slice sm lm cm, slv gx G.length cap6])) _ from ⟨_, _, _, _, _, _, _, _, _, _, _, _, _, rfl, fun w2 hn hK hs2 hl2 => HckG.out _ hK hl2 hs2 (OwnV.nr (by rw [← Hb0.out]; exact HX9) (by decide) hn), He6⟩)
 clear Hr6 He6 Hg6
 clear HX9 HckG HA8 HT8 E8 HX8
 go_wp2_with fail
 refine bodyPost_ret (v := .agg #[.slice sp P.length cp, .slice sc lc cc, .slice sm lm cm, slv gx G.length cap6]) (by simp [results, Tryz.results25, go_sem, r0, r1, r2, r3]) rfl Hres.out
set_option maxHeartbeats 8000000 in
theorem spl1 {w : World} {P : List Int} {C M : Mx} {G : List (List Rat)} {sp : Option Addr} {cp : Nat} {sc : Option Addr} {lc cc : Nat} {sm : Option Addr} {lm cm : Nat} {sg : Option Addr} {lg cg : Nat} {hw : Int} {ss : Option Addr} {cs : Nat} {L : List (List UInt8 × List UInt8)} (h : TuV w P C M G sp cp sc lc cc sm lm cm sg lg cg) (hk : hw % 6 = 1) (hh : 0 ≤ hw ∧ hw < 256) (hs : SzT w (.slice ss L.length cs) L) (hb : ∀ p ∈ L, p.1.length ≤ 1000000 ∧ p.2.length ≤ 1000000) (hL : Laid w) :
  Calls Tryz.prog 25 #[tuS P sp cp sc lc cc sm lm cm sg lg cg, .agg #[.int .u8 hw, .slice ss L.length cs]] w (SpoPost w (.slice ss L.length cs) L) := by
 have hlm := h.lgl
 obtain ⟨hT, hG, hln, hcl, hsh⟩ := h
 have hp4 := hT.ok.p4
 have hm4 := hT.m4
 have hlg := hG.len
 have hg4 : G.length ≤ 4 := by omega
 subst hlg
 have HT := Lib.hid hT
 have HG := Lib.hid hG
 have HL := Lib.hid hL
 have Hln := Lib.hid hln
 have Hlm := Lib.hid hlm
 have Hcl := Lib.hid hcl
 have Hsh := Lib.hid hsh
 have Hst := Lib.hid hs
 have Hb := Lib.hid hb
 obtain ⟨sg', gg, go, cg', vs, eg, hgc, hvl, hS, hr⟩ := hG
 injection eg with q1 q2 q3
 clear q2
 subst q1 q3
 have HS := Lib.hid hS
 have HV := Lib.hid hvl
 have HR := Lib.hid hr
 have hX := (((Ext.refl w).alloc (.cells #[.slice sp P.length cp, .slice sc lc cc, .slice sm lm cm, .slice sg G.length cg] 67)).alloc (.cells #[.int .u8 hw, .slice ss L.length cs] 62)).alloc (.cells #[.slice none 0 0, .slice none 0 0, .slice none 0 0, .slice none 0 0] 67)
 have HckF := Lib.hid (fun W gx cap6 (hK : Kp w W) (hl : Laid W) (ho : OwnV 60 (w.heap.size + 3) W gx cap6 vs) => spo_gn (lg := G.length) (sg := some ⟨gx, 0, none⟩) (cg := cap6) (HT.out.kp hK) hl Hlm.out (GnR.txt ⟨_, gx, 0, cap6, vs, rfl, by have := ho.cap; rw [HV.out] at this; exact this, HV.out, ho.sl, fun i a b => hK.siz _ _ (HR.out i a b)⟩ |> fun h => by simpa using h) (fun K hK => by
  obtain ⟨l, hl, rfl⟩ := List.mem_map.1 hK
  exact txQ_len (Hsh.out l hl)) (by simp; omega))
 have HO0 := ((own4 w 67 (.slice sp P.length cp) (.slice sc lc cc) (.slice sm lm cm) (.slice sg G.length cg)).ext ((Ext.refl _).alloc (.cells #[.int .u8 hw, .slice ss L.length cs] 62))).ext ((Ext.refl _).alloc (.cells #[.slice none 0 0, .slice none 0 0, .slice none 0 0, .slice none 0 0] 67))
 have HO2 := own4 ((w.alloc (.cells #[.slice sp P.length cp, .slice sc lc cc, .slice sm lm cm, .slice sg G.length cg] 67)).alloc (.cells #[.int .u8 hw, .slice ss L.length cs] 62)) 67 (.slice none 0 0) (.slice none 0 0) (.slice none 0 0) (.slice none 0 0)
 have y0 : (((w.alloc (.cells #[.slice sp P.length cp, .slice sc lc cc, .slice sm lm cm, .slice sg G.length cg] 67)).alloc (.cells #[.int .u8 hw, .slice ss L.length cs] 62)).alloc (.cells #[.slice none 0 0, .slice none 0 0, .slice none 0 0, .slice none 0 0] 67)).cell? ⟨w.heap.size + 1, 0, none⟩ = some (.int .u8 hw) := by go_simp
 have y1 : (((w.alloc (.cells #[.slice sp P.length cp, .slice sc lc cc, .slice sm lm cm, .slice sg G.length cg] 67)).alloc (.cells #[.int .u8 hw, .slice ss L.length cs] 62)).alloc (.cells #[.slice none 0 0, .slice none 0 0, .slice none 0 0, .slice none 0 0] 67)).cell? ⟨w.heap.size + 1, 1, none⟩ = some (.slice ss L.length cs) := by go_simp
 rw [show ((w.alloc (.cells #[.slice sp P.length cp, .slice sc lc cc, .slice sm lm cm, .slice sg G.length cg] 67)).alloc (.cells #[.int .u8 hw, .slice ss L.length cs] 62)).heap.size = w.heap.size + 2 by simp] at HO2
 have hDs : (((w.alloc (.cells #[.slice sp P.length cp, .slice sc lc cc, .slice sm lm cm, .slice sg G.length cg] 67)).alloc (.cells #[.int .u8 hw, .slice ss L.length cs] 62)).alloc (.cells #[.slice none 0 0, .slice none 0 0, .slice none 0 0, .slice none 0 0] 67)).heap.size = w.heap.size + 3 := by simp
 clear hT hL hln hcl hsh hS hr hvl hs hb hlm
 have x3 : ((((w.alloc (.cells #[.slice sp P.length cp, .slice sc lc cc, .slice sm lm cm, .slice sg G.length cg] 67)).alloc (.cells #[.int .u8 hw, .slice ss L.length cs] 62)).alloc (.cells #[.slice none 0 0, .slice none 0 0, .slice none 0 0, .slice none 0 0] 67)).alloc (.cells #[] 60)).cell? ⟨w.heap.size, 3, none⟩ = some (.slice sg G.length cg) := by go_simp
 have eZ : Ext (((w.alloc (.cells #[.slice sp P.length cp, .slice sc lc cc, .slice sm lm cm, .slice sg G.length cg] 67)).alloc (.cells #[.int .u8 hw, .slice ss L.length cs] 62)).alloc (.cells #[.slice none 0 0, .slice none 0 0, .slice none 0 0, .slice none 0 0] 67)) ((((w.alloc (.cells #[.slice sp P.length cp, .slice sc lc cc, .slice sm lm cm, .slice sg G.length cg] 67)).alloc (.cells #[.int .u8 hw, .slice ss L.length cs] 62)).alloc (.cells #[.slice none 0 0, .slice none 0 0, .slice none 0 0, .slice none 0 0] 67)).alloc (.cells #[] 60)) := (Ext.refl _).alloc _
 have HOe : OwnV 60 (w.heap.size + 3) ((((w.alloc (.cells #[.slice sp P.length cp, .slice sc lc cc, .slice sm lm cm, .slice sg G.length cg] 67)).alloc (.cells #[.int .u8 hw, .slice ss L.length cs] 62)).alloc (.cells #[.slice none 0 0, .slice none 0 0, .slice none 0 0, .slice none 0 0] 67)).alloc (.cells #[] 60)) (w.heap.size + 3) 0 [] := by
  have h0 : OwnV 60 (((w.alloc (.cells #[.slice sp P.length cp, .slice sc lc cc, .slice sm lm cm, .slice sg G.length cg] 67)).alloc (.cells #[.int .u8 hw, .slice ss L.length cs] 62)).alloc (.cells #[.slice none 0 0, .slice none 0 0, .slice none 0 0, .slice none 0 0] 67)).heap.size ((((w.alloc (.cells #[.slice sp P.length cp, .slice sc lc cc, .slice sm lm cm, .slice sg G.length cg] 67)).alloc (.cells #[.int .u8 hw, .slice ss L.length cs] 62)).alloc (.cells #[.slice none 0 0, .slice none 0 0, .slice none 0 0, .slice none 0 0] 67)).alloc (.cells #[] 60)) (((w.alloc (.cells #[.slice sp P.length cp, .slice sc lc cc, .slice sm lm cm, .slice sg G.length cg] 67)).alloc (.cells #[.int .u8 hw, .slice ss L.length cs] 62)).alloc (.cells #[.slice none 0 0, .slice none 0 0, .slice none 0 0, .slice none 0 0] 67)).heap.size 0 [] := OwnV.of (Nat.le_refl _) Array.getElem?_push_size (Nat.le_refl _) (Nat.zero_le _) rfl rfl
  rw [hDs] at h0; exact h0
 have HSz := Lib.hid (HS.out.ext (hX.trans eZ))
 replace HO0 := Lib.hid HO0
 replace HO2 := Lib.hid HO2
 replace HOe := Lib.hid HOe
 have Hy0 := Lib.hid y0
 have Hy1 := Lib.hid y1
 replace eZ := Lib.hid eZ
 have HDs := Lib.hid hDs
 have HOne := Lib.hid (show ∀ u ∈ vs, u.oneCell' = true from fun u hu => by
  obtain ⟨j, hj, rfl⟩ := List.getElem_of_mem hu
  obtain ⟨xa, xc, ex⟩ := szR_slc (HR.out j (by have := HV.out; omega) hj)
  rw [ex]; rfl)
 obtain ⟨s0, hs, hy0, hy1, hy2⟩ := info_parts Tryz.infoSz
 replace hX := Lib.hid hX
 clear y0 y1 hDs
 go_enter Tryz.func25, Tryz.ntmps25
 go_upto_region 2 with (at_builtin; (refine wpList_spread rfl _ _ 65 rfl (w.heap.size + 3) 60 s0 _ 24 Tryz.underlying65 hs hy0 hy1 hy2 rfl (w.heap.size + 3) rfl HOe.out sg gg go G.length cg vs rfl HV.out HSz.out HOne.out (by omega) (by unfold maxLen; omega) (by simp) ?_; intro gx cap6 w6 hown6 hgrow6; have E6 : Ext (((w.alloc (.cells #[.slice sp P.length cp, .slice sc lc cc, .slice sm lm cm, .slice sg G.length cg] 67)).alloc (.cells #[.int .u8 hw, .slice ss L.length cs] 62)).alloc (.cells #[.slice none 0 0, .slice none 0 0, .slice none 0 0, .slice none 0 0] 67)) w6 := Ext.mk' (Below.grown eZ.out hgrow6 eZ.out.size (fun q hq => by rw [HDs.out]; exact (World.ownsRow.lt HOe.out q hq).1)); have HO6 := HO0.out.ext E6; have HT6 := Lib.hid (HO2.out.ext E6); have Hz0 := Lib.hid (E6.cell Hy0.out); have Hz1 := Lib.hid (E6.cell Hy1.out); have HE6 := Lib.hid (hX.out.trans E6); have HX6 := Lib.hid hown6; have e0 := HO6.cell (j := 3) (by simp); simp only [List.getElem_cons_zero, List.getElem_cons_succ] at e0; have f0 := HO6.frozen 3; obtain ⟨hA, gA⟩ := OwnV.set HO6 3 (slv gx G.length cap6); simp only [List.set_cons_zero, List.set_cons_succ] at hA; have E7 := ext_trans_grown HE6.out gA (Nat.le_refl _); have hsz6 := HT6.out.lt.2; have z0 := (gA.cell_far ⟨w.heap.size + 1, 0, none⟩ (show w.heap.size + 1 < _ by omega) (by simp)).trans Hz0.out; have z1 := (gA.cell_far ⟨w.heap.size + 1, 1, none⟩ (show w.heap.size + 1 < _ by omega) (by simp)).trans Hz1.out; have HT7 := Lib.hid (HT6.out.other gA (by omega)); have hgx := HX6.out.lt; have HX7 := Lib.hid (HX6.out.other gA (by omega)); have hgx2 := hgx.1; have q3 := hA.cell (j := 3) (by simp); simp only [List.getElem_cons_zero, List.getElem_cons_succ] at q3; have HA := Lib.hid hA; replace E7 := Lib.hid E7; clear x3 hgrow6 E6 HO0 HO2 Hy0 Hy1 HSz HOe eZ hX hown6 hgx HX6 HT6 Hz0 Hz1 HE6 hA gA hsz6 HO6))
 generalize w6.setCell ⟨w.heap.size, 3, none⟩ (slv gx G.length cap6) = W7 at *
 clear e0 f0 hs hy0 hy1 hy2 HOne HDs
 obtain ⟨b2, hb2⟩ : ∃ b, b = w.heap.size + 2 := ⟨_, rfl⟩
 rw [show w.heap.size + 1 + 1 = b2 from hb2.symm]
 rw [← hb2] at HT7
 obtain ⟨b1, hb1⟩ : ∃ b, b = w.heap.size + 1 := ⟨_, rfl⟩
 rw [← hb1] at z0 z1 ⊢
 obtain ⟨b0, hb0⟩ : ∃ b, b = w.heap.size := ⟨_, rfl⟩
 rw [← hb0] at HA HX7 hgx2 q3 ⊢
 have Hb0 := Lib.hid hb0
 have Hb1 := Lib.hid hb1
 have Hb2 := Lib.hid hb2
 have Hgx := Lib.hid hgx2
 clear hb0 hb1 hb2 hgx2
 have hcp : G.length - 1 ≤ cap6 := by have := HX7.out.cap; rw [HV.out] at this; omega
 by_cases hn : 0 < G.length
 case neg =>
  have hni : ¬ (G.length : Int) > 0 := by omega
  clear hn hcp
  have q0 := (HA.out).cell (j := 0) (by simp); have q1 := (HA.out).cell (j := 1) (by simp); have q2 := (HA.out).cell (j := 2) (by simp); have q3 := (HA.out).cell (j := 3) (by simp)
  simp only [List.getElem_cons_zero, List.getElem_cons_succ] at q0 q1 q2 q3
  obtain ⟨Hr6, He6, Hg6⟩ := set4 E7.out (by have := Hb2.out; omega) HT7.out (.slice sp P.length cp) (.slice sc lc cc) (.slice sm lm cm) (slv gx G.length cap6)
  have r0 := Hr6.cell (j := 0) (by simp)
  have r1 := Hr6.cell (j := 1) (by simp)
  have r2 := Hr6.cell (j := 2) (by simp)
  have r3 := Hr6.cell (j := 3) (by simp)
  simp only [List.getElem_cons_zero, List.getElem_cons_succ] at r0 r1 r2 r3
  have f0 := (HT7.out).frozen 0
  have f1 := (HT7.out).frozen 1
  have f2 := (HT7.out).frozen 2
  have f3 := (HT7.out).frozen 3
  have m0 := (HT7.out).cell (j := 0) (by simp)
  have m1 := (HT7.out).cell (j := 1) (by simp)
  have m2 := (HT7.out).cell (j := 2) (by simp)
  have m3 := (HT7.out).cell (j := 3) (by simp)
  simp only [List.getElem_cons_zero, List.getElem_cons_succ] at m0 m1 m2 m3
  have HX8 := HX7.out.other Hg6 (by have := Hb2.out; have := Hb0.out; have := Hgx.out; omega)
  have Hres := Lib.hid (show SpoPost w (.slice ss L.length cs) L (.returned (.agg #[.slice sp P.length cp, .slice sc lc cc, .slice sm lm cm, slv gx G.length cap6])) _ from ⟨_, _, _, _, _, _, _, _, _, _, _, _, _, rfl, fun w2 hn hK _ hl2 => HckF.out _ _ _ hK hl2 (OwnV.nr (by rw [← Hb0.out]; exact HX8) (by decide) hn), He6⟩)
  clear Hr6 He6 Hg6
  clear HX8 HckF HA HT7 E7 HX7
  go_wp2_with fail
  refine bodyPost_ret (v := .agg #[.slice sp P.length cp, .slice sc lc cc, .slice sm lm cm, slv gx G.length cap6]) (by simp [results, Tryz.results25, go_sem, r0, r1, r2, r3]) rfl Hres.out
 have hni : (G.length : Int) > 0 := by omega
 have hwr : IntKind.i64.wrap ((G.length : Int) - 1) = ((G.length - 1 : Nat) : Int) := by rw [IntWalk.i64_in _ (by omega)]; omega
 have hcp2 : ((G.length - 1 : Nat) : Int) ≤ (cap6 : Int) := by omega
 have Hne := Lib.hid (show G.length - 1 ≠ lm by have := Hlm.out; omega)
 clear hn hcp HckF
 obtain ⟨hA, gA⟩ := OwnV.set HA.out 3 (slv gx (G.length - 1) cap6)
 simp only [List.set_cons_zero, List.set_cons_succ] at hA
 have f3 := HA.out.frozen 3
 have E8 := Lib.hid (ext_trans_grown E7.out gA (by rw [← Hb0.out]; exact Nat.le_refl _))
 have HT8 := Lib.hid (HT7.out.other gA (by have := Hb2.out; have := Hb0.out; omega))
 have HX8 := Lib.hid (HX7.out.other gA (by have := Hb0.out; have := Hgx.out; omega))
 have HA8 := Lib.hid hA
 clear HA HT7 E7 HX7 hA gA
 go_upto_region 16 with fail
 generalize W7.setCell ⟨b0, 3, none⟩ (slv gx (G.length - 1) cap6) = W8 at *
 clear f3 q3 z0 z1
 clear hni hwr hcp2
 have q0 := (HA8.out).cell (j := 0) (by simp); have q1 := (HA8.out).cell (j := 1) (by simp); have q2 := (HA8.out).cell (j := 2) (by simp); have q3 := (HA8.out).cell (j := 3) (by simp)
 simp only [List.getElem_cons_zero, List.getElem_cons_succ] at q0 q1 q2 q3
 obtain ⟨Hr6, He6, Hg6⟩ := set4 E8.out (by have := Hb2.out; omega) HT8.out (.slice sp P.length cp) (.slice sc lc cc) (.slice sm lm cm) (slv gx (G.length - 1) cap6)
 have r0 := Hr6.cell (j := 0) (by simp)
 have r1 := Hr6.cell (j := 1) (by simp)
 have r2 := Hr6.cell (j := 2) (by simp)
 have r3 := Hr6.cell (j := 3) (by simp)
 simp only [List.getElem_cons_zero, List.getElem_cons_succ] at r0 r1 r2 r3
 have f0 := (HT8.out).frozen 0
 have f1 := (HT8.out).frozen 1
 have f2 := (HT8.out).frozen 2
 have f3 := (HT8.out).frozen 3
 have m0 := (HT8.out).cell (j := 0) (by simp)
 have m1 := (HT8.out).cell (j := 1) (by simp)
 have m2 := (HT8.out).cell (j := 2) (by simp)
 have m3 := (HT8.out).cell (j := 3) (by simp)
 simp only [List.getElem_cons_zero, List.getElem_cons_succ] at m0 m1 m2 m3
 have Hres := Lib.hid (show SpoPost w (.slice ss L.length cs) L (.returned (.agg #[.slice sp P.length cp, .slice sc lc cc, .slice sm lm cm, slv gx (G.length - 1) cap6])) _ from ⟨_, _, _, _, _, _, _, _, _, _, _, _, _, rfl, fun w2 _ hK _ hl2 => spo_ln (HT.out.kp hK) hl2 Hne.out, He6⟩)
 clear Hr6 He6 Hg6
 clear HA8 HT8 E8 HX8
 go_wp2_with fail
 refine bodyPost_ret (v := .agg #[.slice sp P.length cp, .slice sc lc cc, .slice sm lm cm, slv gx (G.length - 1) cap6]) (by simp [results, Tryz.results25, go_sem, r0, r1, r2, r3]) rfl Hres.out
set_option maxHeartbeats 8000000 in
theorem spl5 {w : World} {P : List Int} {C M : Mx} {G : List (List Rat)} {sp : Option Addr} {cp : Nat} {sc : Option Addr} {lc cc : Nat} {sm : Option Addr} {lm cm : Nat} {sg : Option Addr} {lg cg : Nat} {hw : Int} {ss : Option Addr} {cs : Nat} {L : List (List UInt8 × List UInt8)} (h : TuV w P C M G sp cp sc lc cc sm lm cm sg lg cg) (hk : hw % 6 = 5) (hh : 0 ≤ hw ∧ hw < 256) (hs : SzT w (.slice ss L.length cs) L) (hb : ∀ p ∈ L, p.1.length ≤ 1000000 ∧ p.2.length ≤ 1000000) (hL : Laid w) :
  Calls Tryz.prog 25 #[tuS P sp cp sc lc cc sm lm cm sg lg cg, .agg #[.int .u8 hw, .slice ss L.length cs]] w (SpoPost w (.slice ss L.length cs) L) := by
 have hlm := h.lgl
 obtain ⟨hT, hG, hln, hcl, hsh⟩ := h
 have hp4 := hT.ok.p4
 have hm4 := hT.m4
 have hlg := hG.len
 have hg4 : G.length ≤ 4 := by omega
 subst hlg
 have HT := Lib.hid hT
 have HG := Lib.hid hG
 have HL := Lib.hid hL
 have Hln := Lib.hid hln
 have Hlm := Lib.hid hlm
 have Hcl := Lib.hid hcl
 have Hsh := Lib.hid hsh
 have Hst := Lib.hid hs
 have Hb := Lib.hid hb
 obtain ⟨sg', gg, go, cg', vs, eg, hgc, hvl, hS, hr⟩ := hG
 injection eg with q1 q2 q3
 clear q2
 subst q1 q3
 have HS := Lib.hid hS
 have HV := Lib.hid hvl
 have HR := Lib.hid hr
 have hX := (((Ext.refl w).alloc (.cells #[.slice sp P.length cp, .slice sc lc cc, .slice sm lm cm, .slice sg G.length cg] 67)).alloc (.cells #[.int .u8 hw, .slice ss L.length cs] 62)).alloc (.cells #[.slice none 0 0, .slice none 0 0, .slice none 0 0, .slice none 0 0] 67)
 have HckF := Lib.hid (fun W gx cap6 (hK : Kp w W) (hl : Laid W) (ho : OwnV 60 (w.heap.size + 3) W gx cap6 vs) => spo_gn (lg := G.length) (sg := some ⟨gx, 0, none⟩) (cg := cap6) (HT.out.kp hK) hl Hlm.out (GnR.txt ⟨_, gx, 0, cap6, vs, rfl, by have := ho.cap; rw [HV.out] at this; exact this, HV.out, ho.sl, fun i a b => hK.siz _ _ (HR.out i a b)⟩ |> fun h => by simpa using h) (fun K hK => by
  obtain ⟨l, hl, rfl⟩ := List.mem_map.1 hK
  exact txQ_len (Hsh.out l hl)) (by simp; omega))
 have HO0 := ((own4 w 67 (.slice sp P.length cp) (.slice sc lc cc) (.slice sm lm cm) (.slice sg G.length cg)).ext ((Ext.refl _).alloc (.cells #[.int .u8 hw, .slice ss L.length cs] 62))).ext ((Ext.refl _).alloc (.cells #[.slice none 0 0, .slice none 0 0, .slice none 0 0, .slice none 0 0] 67))
 have HO2 := own4 ((w.alloc (.cells #[.slice sp P.length cp, .slice sc lc cc, .slice sm lm cm, .slice sg G.length cg] 67)).alloc (.cells #[.int .u8 hw, .slice ss L.length cs] 62)) 67 (.slice none 0 0) (.slice none 0 0) (.slice none 0 0) (.slice none 0 0)
 have y0 : (((w.alloc (.cells #[.slice sp P.length cp, .slice sc lc cc, .slice sm lm cm, .slice sg G.length cg] 67)).alloc (.cells #[.int .u8 hw, .slice ss L.length cs] 62)).alloc (.cells #[.slice none 0 0, .slice none 0 0, .slice none 0 0, .slice none 0 0] 67)).cell? ⟨w.heap.size + 1, 0, none⟩ = some (.int .u8 hw) := by go_simp
 have y1 : (((w.alloc (.cells #[.slice sp P.length cp, .slice sc lc cc, .slice sm lm cm, .slice sg G.length cg] 67)).alloc (.cells #[.int .u8 hw, .slice ss L.length cs] 62)).alloc (.cells #[.slice none 0 0, .slice none 0 0, .slice none 0 0, .slice none 0 0] 67)).cell? ⟨w.heap.size + 1, 1, none⟩ = some (.slice ss L.length cs) := by go_simp
 rw [show ((w.alloc (.cells #[.slice sp P.length cp, .slice sc lc cc, .slice sm lm cm, .slice sg G.length cg] 67)).alloc (.cells #[.int .u8 hw, .slice ss L.length cs] 62)).heap.size = w.heap.size + 2 by simp] at HO2
 have hDs : (((w.alloc (.cells #[.slice sp P.length cp, .slice sc lc cc, .slice sm lm cm, .slice sg G.length cg] 67)).alloc (.cells #[.int .u8 hw, .slice ss L.length cs] 62)).alloc (.cells #[.slice none 0 0, .slice none 0 0, .slice none 0 0, .slice none 0 0] 67)).heap.size = w.heap.size + 3 := by simp
 clear hT hL hln hcl hsh hS hr hvl hs hb hlm
 have x3 : ((((w.alloc (.cells #[.slice sp P.length cp, .slice sc lc cc, .slice sm lm cm, .slice sg G.length cg] 67)).alloc (.cells #[.int .u8 hw, .slice ss L.length cs] 62)).alloc (.cells #[.slice none 0 0, .slice none 0 0, .slice none 0 0, .slice none 0 0] 67)).alloc (.cells #[] 60)).cell? ⟨w.heap.size, 3, none⟩ = some (.slice sg G.length cg) := by go_simp
 have eZ : Ext (((w.alloc (.cells #[.slice sp P.length cp, .slice sc lc cc, .slice sm lm cm, .slice sg G.length cg] 67)).alloc (.cells #[.int .u8 hw, .slice ss L.length cs] 62)).alloc (.cells #[.slice none 0 0, .slice none 0 0, .slice none 0 0, .slice none 0 0] 67)) ((((w.alloc (.cells #[.slice sp P.length cp, .slice sc lc cc, .slice sm lm cm, .slice sg G.length cg] 67)).alloc (.cells #[.int .u8 hw, .slice ss L.length cs] 62)).alloc (.cells #[.slice none 0 0, .slice none 0 0, .slice none 0 0, .slice none 0 0] 67)).alloc (.cells #[] 60)) := (Ext.refl _).alloc _
 have HOe : OwnV 60 (w.heap.size + 3) ((((w.alloc (.cells #[.slice sp P.length cp, .slice sc lc cc, .slice sm lm cm, .slice sg G.length cg] 67)).alloc (.cells #[.int .u8 hw, .slice ss L.length cs] 62)).alloc (.cells #[.slice none 0 0, .slice none 0 0, .slice none 0 0, .slice none 0 0] 67)).alloc (.cells #[] 60)) (w.heap.size + 3) 0 [] := by
  have h0 : OwnV 60 (((w.alloc (.cells #[.slice sp P.length cp, .slice sc lc cc, .slice sm lm cm, .slice sg G.length cg] 67)).alloc (.cells #[.int .u8 hw, .slice ss L.length cs] 62)).alloc (.cells #[.slice none 0 0, .slice none 0 0, .slice none 0 0, .slice none 0 0] 67)).heap.size ((((w.alloc (.cells #[.slice sp P.length cp, .slice sc lc cc, .slice sm lm cm, .slice sg G.length cg] 67)).alloc (.cells #[.int .u8 hw, .slice ss L.length cs] 62)).alloc (.cells #[.slice none 0 0, .slice none 0 0, .slice none 0 0, .slice none 0 0] 67)).alloc (.cells #[] 60)) (((w.alloc (.cells #[.slice sp P.length cp, .slice sc lc cc, .slice sm lm cm, .slice sg G.length cg] 67)).alloc (.cells #[.int .u8 hw, .slice ss L.length cs] 62)).alloc (.cells #[.slice none 0 0, .slice none 0 0, .slice none 0 0, .slice none 0 0] 67)).heap.size 0 [] := OwnV.of (Nat.le_refl _) Array.getElem?_push_size (Nat.le_refl _) (Nat.zero_le _) rfl rfl
  rw [hDs] at h0; exact h0
 have HSz := Lib.hid (HS.out.ext (hX.trans eZ))
 replace HO0 := Lib.hid HO0
 replace HO2 := Lib.hid HO2
 replace HOe := Lib.hid HOe
 have Hy0 := Lib.hid y0
 have Hy1 := Lib.hid y1
 replace eZ := Lib.hid eZ
 have HDs := Lib.hid hDs
 have HOne := Lib.hid (show ∀ u ∈ vs, u.oneCell' = true from fun u hu => by
  obtain ⟨j, hj, rfl⟩ := List.getElem_of_mem hu
  obtain ⟨xa, xc, ex⟩ := szR_slc (HR.out j (by have := HV.out; omega) hj)
  rw [ex]; rfl)
 obtain ⟨s0, hs, hy0, hy1, hy2⟩ := info_parts Tryz.infoSz
 replace hX := Lib.hid hX
 clear y0 y1 hDs
 go_enter Tryz.func25, Tryz.ntmps25
 go_upto_region 2 with (at_builtin; (refine wpList_spread rfl _ _ 65 rfl (w.heap.size + 3) 60 s0 _ 24 Tryz.underlying65 hs hy0 hy1 hy2 rfl (w.heap.size + 3) rfl HOe.out sg gg go G.length cg vs rfl HV.out HSz.out HOne.out (by omega) (by unfold maxLen; omega) (by simp) ?_; intro gx cap6 w6 hown6 hgrow6; have E6 : Ext (((w.alloc (.cells #[.slice sp P.length cp, .slice sc lc cc, .slice sm lm cm, .slice sg G.length cg] 67)).alloc (.cells #[.int .u8 hw, .slice ss L.length cs] 62)).alloc (.cells #[.slice none 0 0, .slice none 0 0, .slice none 0 0, .slice none 0 0] 67)) w6 := Ext.mk' (Below.grown eZ.out hgrow6 eZ.out.size (fun q hq => by rw [HDs.out]; exact (World.ownsRow.lt HOe.out q hq).1)); have HO6 := HO0.out.ext E6; have HT6 := Lib.hid (HO2.out.ext E6); have Hz0 := Lib.hid (E6.cell Hy0.out); have Hz1 := Lib.hid (E6.cell Hy1.out); have HE6 := Lib.hid (hX.out.trans E6); have HX6 := Lib.hid hown6; have e0 := HO6.cell (j := 3) (by simp); simp only [List.getElem_cons_zero, List.getElem_cons_succ] at e0; have f0 := HO6.frozen 3; obtain ⟨hA, gA⟩ := OwnV.set HO6 3 (slv gx G.length cap6); simp only [List.set_cons_zero, List.set_cons_succ] at hA; have E7 := ext_trans_grown HE6.out gA (Nat.le_refl _); have hsz6 := HT6.out.lt.2; have z0 := (gA.cell_far ⟨w.heap.size + 1, 0, none⟩ (show w.heap.size + 1 < _ by omega) (by simp)).trans Hz0.out; have z1 := (gA.cell_far ⟨w.heap.size + 1, 1, none⟩ (show w.heap.size + 1 < _ by omega) (by simp)).trans Hz1.out; have HT7 := Lib.hid (HT6.out.other gA (by omega)); have hgx := HX6.out.lt; have HX7 := Lib.hid (HX6.out.other gA (by omega)); have hgx2 := hgx.1; have q3 := hA.cell (j := 3) (by simp); simp only [List.getElem_cons_zero, List.getElem_cons_succ] at q3; have HA := Lib.hid hA; replace E7 := Lib.hid E7; clear x3 hgrow6 E6 HO0 HO2 Hy0 Hy1 HSz HOe eZ hX hown6 hgx HX6 HT6 Hz0 Hz1 HE6 hA gA hsz6 HO6))
 generalize w6.setCell ⟨w.heap.size, 3, none⟩ (slv gx G.length cap6) = W7 at *
 clear e0 f0 hs hy0 hy1 hy2 HOne HDs
 obtain ⟨b2, hb2⟩ : ∃ b, b = w.heap.size + 2 := ⟨_, rfl⟩
 rw [show w.heap.size + 1 + 1 = b2 from hb2.symm]
 rw [← hb2] at HT7
 obtain ⟨b1, hb1⟩ : ∃ b, b = w.heap.size + 1 := ⟨_, rfl⟩
 rw [← hb1] at z0 z1 ⊢
 obtain ⟨b0, hb0⟩ : ∃ b, b = w.heap.size := ⟨_, rfl⟩
 rw [← hb0] at HA HX7 hgx2 q3 ⊢
 have Hb0 := Lib.hid hb0
 have Hb1 := Lib.hid hb1
 have Hb2 := Lib.hid hb2
 have Hgx := Lib.hid hgx2
 clear hb0 hb1 hb2 hgx2
 have q0 := (HA.out).cell (j := 0) (by simp); have q1 := (HA.out).cell (j := 1) (by simp); have q2 := (HA.out).cell (j := 2) (by simp); have q3 := (HA.out).cell (j := 3) (by simp)
 simp only [List.getElem_cons_zero, List.getElem_cons_succ] at q0 q1 q2 q3
 obtain ⟨Hr6, He6, Hg6⟩ := set4 E7.out (by have := Hb2.out; omega) HT7.out (.slice sp P.length cp) (.slice sc lc cc) (.slice sm lm cm) (slv gx G.length cap6)
 have r0 := Hr6.cell (j := 0) (by simp)
 have r1 := Hr6.cell (j := 1) (by simp)
 have r2 := Hr6.cell (j := 2) (by simp)
 have r3 := Hr6.cell (j := 3) (by simp)
 simp only [List.getElem_cons_zero, List.getElem_cons_succ] at r0 r1 r2 r3
 have f0 := (HT7.out).frozen 0
 have f1 := (HT7.out).frozen 1
 have f2 := (HT7.out).frozen 2
 have f3 := (HT7.out).frozen 3
 have m0 := (HT7.out).cell (j := 0) (by simp)
 have m1 := (HT7.out).cell (j := 1) (by simp)
 have m2 := (HT7.out).cell (j := 2) (by simp)
 have m3 := (HT7.out).cell (j := 3) (by simp)
 simp only [List.getElem_cons_zero, List.getElem_cons_succ] at m0 m1 m2 m3
 have HX8 := HX7.out.other Hg6 (by have := Hb2.out; have := Hb0.out; have := Hgx.out; omega)
 have Hres := Lib.hid (show SpoPost w (.slice ss L.length cs) L (.returned (.agg #[.slice sp P.length cp, .slice sc lc cc, .slice sm lm cm, slv gx G.length cap6])) _ from ⟨_, _, _, _, _, _, _, _, _, _, _, _, _, rfl, fun w2 hn hK _ hl2 => HckF.out _ _ _ hK hl2 (OwnV.nr (by rw [← Hb0.out]; exact HX8) (by decide) hn), He6⟩)
 clear Hr6 He6 Hg6
 clear HX8 HckF HA HT7 E7 HX7
 go_wp2_with fail
 refine bodyPost_ret (v := .agg #[.slice sp P.length cp, .slice sc lc cc, .slice sm lm cm, slv gx G.length cap6]) (by simp [results, Tryz.results25, go_sem, r0, r1, r2, r3]) rfl Hres.out
end Go.Proofs.YtjnpakablgommaaGreatDoor
