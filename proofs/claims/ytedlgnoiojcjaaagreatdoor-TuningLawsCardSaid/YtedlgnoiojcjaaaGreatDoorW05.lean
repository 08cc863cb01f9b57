/- Part 5, beside the shared parts, of the proof of the claim: contracts and plain laws; no condition. -/
import Derived.Test.YtedlgnoiojcjaaaGreatDoorV01
import Derived.Test.YtedlgnoiojcjaaaGreatDoorV02
import Derived.Test.YtedlgnoiojcjaaaGreatDoorV03
import Derived.Test.YtedlgnoiojcjaaaGreatDoorV04
import Derived.Test.YtedlgnoiojcjaaaGreatDoorV05
import Derived.Test.YtedlgnoiojcjaaaGreatDoorV06
import Derived.Test.YtedlgnoiojcjaaaGreatDoorV07
import Derived.Test.YtedlgnoiojcjaaaGreatDoorV08
import Derived.Test.YtedlgnoiojcjaaaGreatDoorV09
import Derived.Test.YtedlgnoiojcjaaaGreatDoorV10
import Derived.Test.YtedlgnoiojcjaaaGreatDoorV11
import Derived.Test.YtedlgnoiojcjaaaGreatDoorV12
import Derived.Test.YtedlgnoiojcjaaaGreatDoorV13
import Derived.Test.YtedlgnoiojcjaaaGreatDoorV14
import Derived.Test.YtedlgnoiojcjaaaGreatDoorV15
import Derived.Test.YtedlgnoiojcjaaaGreatDoorV16
import Derived.Test.YtedlgnoiojcjaaaGreatDoorV17
import Derived.Test.YtedlgnoiojcjaaaGreatDoorV18
import Derived.Test.YtedlgnoiojcjaaaGreatDoorV19
import Derived.Test.YtedlgnoiojcjaaaGreatDoorV20
import Derived.Test.YtedlgnoiojcjaaaGreatDoorV21
import Derived.Test.YtedlgnoiojcjaaaGreatDoorV22
import Derived.Test.YtedlgnoiojcjaaaGreatDoorV23
import Derived.Test.YtedlgnoiojcjaaaGreatDoorV24
import Derived.Test.YtedlgnoiojcjaaaGreatDoorV25
import Derived.Test.YtedlgnoiojcjaaaGreatDoorV26
import Derived.Test.YtedlgnoiojcjaaaGreatDoorV27
import Derived.Test.YtedlgnoiojcjaaaGreatDoorV28
import Derived.Test.YtedlgnoiojcjaaaGreatDoorV29
import Derived.Test.YtedlgnoiojcjaaaGreatDoorV30
import Derived.Test.YtedlgnoiojcjaaaGreatDoorV31
import Derived.Test.YtedlgnoiojcjaaaGreatDoorW01
import Derived.Test.YtedlgnoiojcjaaaGreatDoorW02
import Derived.Test.YtedlgnoiojcjaaaGreatDoorW03
import Derived.Test.YtedlgnoiojcjaaaGreatDoorW04
import Derived.BigFrame
import Derived.Laws.Rows
import Derived.Test.YtedlgnoiojcjaaaGreatDoorRows
import Derived.ProofKit
import Derived.LaidMore
import Derived.OpenShut
import Derived.Stop.Joined
import Derived.Stop.LaidErr
import Derived.Lib.LaidTab
import Derived.Deep.Matrix
set_option maxRecDepth 100000
namespace Go.Proofs.YtedlgnoiojcjaaaGreatDoor
open Go.RowKit Go.Sort
theorem ar4_lit {a b c d : Int} (h : (-128 ≤ a ∧ a ≤ 127) ∧ (-128 ≤ b ∧ b ≤ 127) ∧ (-128 ≤ c ∧ c ≤ 127) ∧ (-128 ≤ d ∧ d ≤ 127)) : Ar4 #[.int .i8 a, .int .i8 b, .int .i8 c, .int .i8 d] [a, b, c, d] := by
 refine ⟨rfl, rfl, fun j hj => ?_, fun z hz => ?_⟩
 ·rcases (show j = 0 ∨ j = 1 ∨ j = 2 ∨ j = 3 by omega) with rfl | rfl | rfl | rfl <;> rfl
 ·simp only [List.mem_cons, List.not_mem_nil, or_false] at hz
  omega
set_option maxHeartbeats 16000000 in
theorem tlw_walk {w : World} {b : Int} {rv : Value} {Z : List (List Int)} {vals : Bool} {A B : Nat → Nat → Int} {l0 l1 l2 l3 n0 n1 n2 n3 : Int} (hb : 0 ≤ b ∧ b ≤ 255) (hR : RowsA w rv Z) (hB : ∀ i t, 0 ≤ B i t ∧ B i t ≤ 255) (hl : (-128 ≤ l0 ∧ l0 ≤ 127) ∧ (-128 ≤ l1 ∧ l1 ≤ 127) ∧ (-128 ≤ l2 ∧ l2 ≤ 127) ∧ (-128 ≤ l3 ∧ l3 ≤ 127)) (hn : (-128 ≤ n0 ∧ n0 ≤ 127) ∧ (-128 ≤ n1 ∧ n1 ≤ 127) ∧ (-128 ≤ n2 ∧ n2 ≤ 127) ∧ (-128 ≤ n3 ∧ n3 ≤ 127)) (hL : Laid w) :
  Calls Tryz.prog 3 #[planT b rv vals A B, .agg #[.int .i8 l0, .int .i8 l1, .int .i8 l2, .int .i8 l3], .agg #[.int .i8 n0, .int .i8 n1, .int .i8 n2, .int .i8 n3]] w fun e w' => e = .returned (.bool true) ∧ Ext w w' := by
 have hkn := Lib.hid (fun W (hW : Ext w W) => known24_any (hL.ext hW))
 have hft := Lib.hid (fun W (hW : Ext w W) => fits24_any (b := b) (vals := vals) (A := A) (B := B) (hR.ext hW))
 have hmk := Lib.hid (fun W (hW : Ext w W) (h3 : Z.length ≤ 3) => make24_any (vals := vals) (A := A) hb (hR.ext hW) h3 hB (hL.ext hW))
 have HL := Lib.hid hL
 obtain ⟨cs, hcs⟩ : ∃ cs, Value.agg cs = planT b rv vals A B := ⟨_, rfl⟩
 have hsz : cs.size = 35 := by
  injection hcs with h
  rw [h]; rfl
 have hinf : (Tryz.prog.info? 32).map (·.size) = some cs.size := by rw [hsz]; kernel_rfl
 simp only [← hcs] at hft hmk ⊢
 clear hcs hsz hb hR hB
 have hX := (Ext.refl w).alloc (.cells cs 32)
 have hg : (w.alloc (.cells cs 32)).heap[w.heap.size]? = some (.cells cs 32 (0, 0)) := heap_alloc_new _ _
 have hlt0 : w.heap.size < (w.alloc (.cells cs 32)).heap.size := by simp
 have ha1 := Lib.hid (ar4_lit hl)
 have ha2 := Lib.hid (ar4_lit hn)
 clear hL hl hn
 have eLM : Ext (w.alloc (.cells cs 32)) (((w.alloc (.cells cs 32)).alloc (.cells #[.int .i8 l0, .int .i8 l1, .int .i8 l2, .int .i8 l3] 33)).alloc (.cells #[.int .i8 n0, .int .i8 n1, .int .i8 n2, .int .i8 n3] 33)) := ((Ext.refl _).alloc _).alloc _
 replace hX := hX.trans eLM
 replace hg := (eLM.block _ hlt0).trans hg
 replace hlt0 : w.heap.size < (((w.alloc (.cells cs 32)).alloc (.cells #[.int .i8 l0, .int .i8 l1, .int .i8 l2, .int .i8 l3] 33)).alloc (.cells #[.int .i8 n0, .int .i8 n1, .int .i8 n2, .int .i8 n3] 33)).heap.size := by simp; omega
 have a0 : (((w.alloc (.cells cs 32)).alloc (.cells #[.int .i8 l0, .int .i8 l1, .int .i8 l2, .int .i8 l3] 33)).alloc (.cells #[.int .i8 n0, .int .i8 n1, .int .i8 n2, .int .i8 n3] 33)).cell? ⟨w.heap.size + 1, 0, none⟩ = some (.int .i8 l0) := by go_simp
 have a1 : (((w.alloc (.cells cs 32)).alloc (.cells #[.int .i8 l0, .int .i8 l1, .int .i8 l2, .int .i8 l3] 33)).alloc (.cells #[.int .i8 n0, .int .i8 n1, .int .i8 n2, .int .i8 n3] 33)).cell? ⟨w.heap.size + 1, 1, none⟩ = some (.int .i8 l1) := by go_simp
 have a2 : (((w.alloc (.cells cs 32)).alloc (.cells #[.int .i8 l0, .int .i8 l1, .int .i8 l2, .int .i8 l3] 33)).alloc (.cells #[.int .i8 n0, .int .i8 n1, .int .i8 n2, .int .i8 n3] 33)).cell? ⟨w.heap.size + 1, 2, none⟩ = some (.int .i8 l2) := by go_simp
 have a3 : (((w.alloc (.cells cs 32)).alloc (.cells #[.int .i8 l0, .int .i8 l1, .int .i8 l2, .int .i8 l3] 33)).alloc (.cells #[.int .i8 n0, .int .i8 n1, .int .i8 n2, .int .i8 n3] 33)).cell? ⟨w.heap.size + 1, 3, none⟩ = some (.int .i8 l3) := by go_simp
 have c0 : (((w.alloc (.cells cs 32)).alloc (.cells #[.int .i8 l0, .int .i8 l1, .int .i8 l2, .int .i8 l3] 33)).alloc (.cells #[.int .i8 n0, .int .i8 n1, .int .i8 n2, .int .i8 n3] 33)).cell? ⟨w.heap.size + 1 + 1, 0, none⟩ = some (.int .i8 n0) := by go_simp
 have c1 : (((w.alloc (.cells cs 32)).alloc (.cells #[.int .i8 l0, .int .i8 l1, .int .i8 l2, .int .i8 l3] 33)).alloc (.cells #[.int .i8 n0, .int .i8 n1, .int .i8 n2, .int .i8 n3] 33)).cell? ⟨w.heap.size + 1 + 1, 1, none⟩ = some (.int .i8 n1) := by go_simp
 have c2 : (((w.alloc (.cells cs 32)).alloc (.cells #[.int .i8 l0, .int .i8 l1, .int .i8 l2, .int .i8 l3] 33)).alloc (.cells #[.int .i8 n0, .int .i8 n1, .int .i8 n2, .int .i8 n3] 33)).cell? ⟨w.heap.size + 1 + 1, 2, none⟩ = some (.int .i8 n2) := by go_simp
 have c3 : (((w.alloc (.cells cs 32)).alloc (.cells #[.int .i8 l0, .int .i8 l1, .int .i8 l2, .int .i8 l3] 33)).alloc (.cells #[.int .i8 n0, .int .i8 n1, .int .i8 n2, .int .i8 n3] 33)).cell? ⟨w.heap.size + 1 + 1, 3, none⟩ = some (.int .i8 n3) := by go_simp
 by_cases hz3 : Z.length ≤ 3
 case neg =>
  simp only [decide_eq_false hz3] at hft
  clear hz3
  go_enter Tryz.func3, Tryz.ntmps3
  go_wp2_with fail
  refine (hkn.out _ hX).mono ?_
  rintro e W1 ⟨rfl, hE1⟩
  have hg1 := (hE1.block _ hlt0).trans hg
  have e1 := hX.trans hE1
  replace a0 := hE1.cell a0
  replace a1 := hE1.cell a1
  replace a2 := hE1.cell a2
  replace a3 := hE1.cell a3
  replace c0 := hE1.cell c0
  replace c1 := hE1.cell c1
  replace c2 := hE1.cell c2
  replace c3 := hE1.cell c3
  clear hg hE1 hlt0 eLM
  go_wp2_with (refine BigFrame.wpList_want (by rfl) fun K hK => wp_load_row 32 _ rfl w.heap.size rfl 32 cs (0, 0) _ hg1 Tryz.underlying32 rfl hinf (hK _ _ ?_))
  refine (hft.out _ e1).mono ?_
  rintro e W2 ⟨rfl, hE2⟩
  have hg2 := (hE2.block _ (Array.getElem?_eq_some_iff.1 hg1).1).trans hg1
  have e2 := e1.trans hE2
  replace a0 := hE2.cell a0
  replace a1 := hE2.cell a1
  replace a2 := hE2.cell a2
  replace a3 := hE2.cell a3
  replace c0 := hE2.cell c0
  replace c1 := hE2.cell c1
  replace c2 := hE2.cell c2
  replace c3 := hE2.cell c3
  clear hg1 hE2 hft
  go_wp2_with fail
  refine (hkn.out _ e2).mono ?_
  rintro e W9 ⟨rfl, hE9⟩
  go_wp2_with fail
  go_ret
  exact ⟨rfl, Ext.trans e2 hE9⟩
 simp only [decide_eq_true hz3] at hft
 have Hz3 := Lib.hid hz3
 clear hz3
 go_enter Tryz.func3, Tryz.ntmps3
 go_wp2_with fail
 refine (hkn.out _ hX).mono ?_
 rintro e W1 ⟨rfl, hE1⟩
 have hg1 := (hE1.block _ hlt0).trans hg
 have e1 := hX.trans hE1
 replace a0 := hE1.cell a0
 replace a1 := hE1.cell a1
 replace a2 := hE1.cell a2
 replace a3 := hE1.cell a3
 replace c0 := hE1.cell c0
 replace c1 := hE1.cell c1
 replace c2 := hE1.cell c2
 replace c3 := hE1.cell c3
 clear hg hE1 hlt0 eLM
 go_wp2_with (refine BigFrame.wpList_want (by rfl) fun K hK => wp_load_row 32 _ rfl w.heap.size rfl 32 cs (0, 0) _ hg1 Tryz.underlying32 rfl hinf (hK _ _ ?_))
 refine (hft.out _ e1).mono ?_
 rintro e W2 ⟨rfl, hE2⟩
 have hg2 := (hE2.block _ (Array.getElem?_eq_some_iff.1 hg1).1).trans hg1
 have e2 := e1.trans hE2
 replace a0 := hE2.cell a0
 replace a1 := hE2.cell a1
 replace a2 := hE2.cell a2
 replace a3 := hE2.cell a3
 replace c0 := hE2.cell c0
 replace c1 := hE2.cell c1
 replace c2 := hE2.cell c2
 replace c3 := hE2.cell c3
 clear hg1 hE2 hft
 clear hkn
 go_wp2_with (refine wpList_load_row rfl 32 _ rfl w.heap.size rfl 32 cs (0, 0) _ hg2 Tryz.underlying32 rfl hinf ?_)
 refine (hmk.out _ e2 Hz3.out).mono ?_
 rintro e W3 ⟨t, C, M, rfl, hT, hE3⟩
 obtain ⟨sp, cp, sc, lc, cc, sm, lm, cm, sg, lg, cg, rfl, hT⟩ := hT
 have e3 := e2.trans hE3
 replace a0 := hE3.cell a0
 replace a1 := hE3.cell a1
 replace a2 := hE3.cell a2
 replace a3 := hE3.cell a3
 replace c0 := hE3.cell c0
 replace c1 := hE3.cell c1
 replace c2 := hE3.cell c2
 replace c3 := hE3.cell c3
 have eTB := (Ext.refl W3).alloc (.cells #[.slice sp (prL b).length cp, .slice sc lc cc, .slice sm lm cm, .slice sg lg cg] 44)
 replace a0 := eTB.cell a0
 replace a1 := eTB.cell a1
 replace a2 := eTB.cell a2
 replace a3 := eTB.cell a3
 replace c0 := eTB.cell c0
 replace c1 := eTB.cell c1
 replace c2 := eTB.cell c2
 replace c3 := eTB.cell c3
 have ea := (Ext.refl W3).alloc (.cells #[.slice sp (prL b).length cp, .slice sc lc cc, .slice sm lm cm, .slice sg lg cg] 44)
 have x0 : (W3.alloc (.cells #[.slice sp (prL b).length cp, .slice sc lc cc, .slice sm lm cm, .slice sg lg cg] 44)).cell? ⟨W3.heap.size, 0, none⟩ = some (.slice sp (prL b).length cp) := by go_simp
 have x1 : (W3.alloc (.cells #[.slice sp (prL b).length cp, .slice sc lc cc, .slice sm lm cm, .slice sg lg cg] 44)).cell? ⟨W3.heap.size, 1, none⟩ = some (.slice sc lc cc) := by go_simp
 have x2 : (W3.alloc (.cells #[.slice sp (prL b).length cp, .slice sc lc cc, .slice sm lm cm, .slice sg lg cg] 44)).cell? ⟨W3.heap.size, 2, none⟩ = some (.slice sm lm cm) := by go_simp
 have x3 : (W3.alloc (.cells #[.slice sp (prL b).length cp, .slice sc lc cc, .slice sm lm cm, .slice sg lg cg] 44)).cell? ⟨W3.heap.size, 3, none⟩ = some (.slice sg lg cg) := by go_simp
 have HT := Lib.hid (hT.ext ea)
 have e4 := e3.trans ea
 clear hmk hg2 hT ea e3 hE3 e2 e1 hinf hX
 go_wp2_with fail
 generalize W3.alloc (.cells #[.slice sp (prL b).length cp, .slice sc lc cc, .slice sm lm cm, .slice sg lg cg] 44) = X at *
 generalize W3.heap.size = b5 at *
 clear eTB
 generalize w.heap.size + 1 = bl at *
 generalize bl + 1 = bm at *
 have hm4 := HT.out.tm.m4
 have Hsz := Lib.hid (fun (x : List Int) (h : tuE (prL b).length M x = 0) => tuL_sz (A := A) (B := B) (np := (prL b).length) hm4 h)
 have Hsm := Lib.hid (fun (x : List Int) (h1 : x.length = (prL b).length) (h2 : ∀ z ∈ x, z.natAbs ≤ 18) => tuE_small HT.out.tm.ok h1 h2)
 have hln := HT.out.gn.len
 generalize mkG A B (prL b).length M.length = G at *
 generalize prL b = P at *
 subst hln
 have hp4 := HT.out.tm.ok.p4
 have Hiv := Lib.hid (fun W (hW : Ext X W) => interval12_any (HT.out.tm.hP.ext hW) hp4 ha1.out)
 have Hiw := Lib.hid (fun W (hW : Ext X W) => interval12_any (HT.out.tm.hP.ext hW) hp4 ha2.out)
 have Hx9 := Lib.hid (ivL_ent P.length [l0, l1, l2, l3])
 have Hy9 := Lib.hid (ivL_ent P.length [n0, n1, n2, n3])
 have Hxl := Lib.hid (ivL_len (n := P.length) (zs := [l0, l1, l2, l3]) rfl hp4)
 have Hyl := Lib.hid (ivL_len (n := P.length) (zs := [n0, n1, n2, n3]) rfl hp4)
 generalize ivL P.length [l0, l1, l2, l3] = x at *
 generalize ivL P.length [n0, n1, n2, n3] = y at *
 clear ha1 ha2 hm4
 go_wp2_with fail
 have d0 : Ext X X.drew := (Ext.refl X).drew
 refine wp_region_held_tail (S := fun W => Ext X W) 6 (by kernel_rfl) (by simp) ?_
 intro inv
 generalize X.drew = X1 at *
 refine wpAnyLH_take (i := 0) (v := .slice sp P.length cp) rfl (by kernel_rfl) (fun _ _ _ h => h) (.inl ⟨by rfl, fun W hW => by go_simp⟩) d0 inv ?_
 intro inv
 go_simp
 refine wpAnyLH_take (i := 1) (v := .agg #[.int .i8 l0, .int .i8 l1, .int .i8 l2, .int .i8 l3]) rfl (by kernel_rfl) (fun _ _ _ h => h) (.inl ⟨by rfl, fun W hW => by have z0 := hW.cell a0; have z1 := hW.cell a1; have z2 := hW.cell a2; have z3 := hW.cell a3; go_simp⟩) d0 inv ?_
 intro inv
 go_simp
 refine wpAnyLH_take (i := 3) (v := .slice sp P.length cp) rfl (by kernel_rfl) (fun _ _ _ h => h) (.inl ⟨by rfl, fun W hW => by go_simp⟩) d0 inv ?_
 intro inv
 go_simp
 refine wpAnyLH_take (i := 4) (v := .agg #[.int .i8 n0, .int .i8 n1, .int .i8 n2, .int .i8 n3]) rfl (by kernel_rfl) (fun _ _ _ h => h) (.inl ⟨by rfl, fun W hW => by have z0 := hW.cell c0; have z1 := hW.cell c1; have z2 := hW.cell c2; have z3 := hW.cell c3; go_simp⟩) d0 inv ?_
 intro inv
 go_simp
 refine wpAnyLH_oneI (i := 2) rfl (by kernel_rfl) inv (fun inv K0 hK0 => ?_)
 go_simp
 refine (Hiv.out _ d0).mono ?_
 rintro e X2 ⟨v1, rfl, hv1, hG1⟩
 have d1 := d0.trans hG1
 have HV1 := Lib.hid hv1.row
 obtain ⟨va, vl, vc, rfl⟩ := RowV.slice hv1
 refine hK0 _ _ d1 ?_
 clear hK0 hv1
 refine wpAnyLH_oneI (i := 5) rfl (by kernel_rfl) inv (fun inv K0 hK0 => ?_)
 go_simp
 refine (Hiw.out _ d1).mono ?_
 rintro e X3 ⟨v2, rfl, hv2, hG2⟩
 have d2 := d1.trans hG2
 replace HV1 := Lib.hid (HV1.out.ext hG2)
 have HV2 := Lib.hid hv2.row
 obtain ⟨ua, ul, uc, rfl⟩ := RowV.slice hv2
 refine hK0 _ _ d2 ?_
 clear hK0 hv2
 refine wpAnyLH_end (by kernel_rfl) ?_
 replace x0 := d2.cell x0
 replace x1 := d2.cell x1
 replace x2 := d2.cell x2
 replace x3 := d2.cell x3
 replace HT := Lib.hid (HT.out.ext d2)
 have e5 := e4.trans d2
 clear inv d0 d1 d2 hG1 hG2 Hiv Hiw a0 a1 a2 a3 c0 c1 c2 c3 e4
 have Had := Lib.hid (mAdd_ok HT.out.tm.hP HT.out.tm.ok.p0 hp4 HT.out.tm.ok.pr HT.out.tm.ok.inc HV1.out HV2.out Hxl.out Hyl.out (fun z hz => by have := Hx9.out z hz; omega) (fun z hz => by have := Hy9.out z hz; omega))
 go_wp2_with fail
 refine Had.out.mono ?_
 rintro e Y1 ⟨v3, rfl, hv3, hE1⟩
 have HV3 := Lib.hid hv3.row
 obtain ⟨wa, wl, wc, rfl⟩ := RowV.slice hv3
 have e6 := e5.trans hE1
 replace x0 := hE1.cell x0
 replace x1 := hE1.cell x1
 replace x2 := hE1.cell x2
 replace x3 := hE1.cell x3
 replace HT := Lib.hid (HT.out.ext hE1)
 replace HV1 := Lib.hid (HV1.out.ext hE1)
 replace HV2 := Lib.hid (HV2.out.ext hE1)
 clear hv3 hE1 Had e5
 have Ex := Lib.hid (Hsm.out x Hxl.out (fun z hz => by have := Hx9.out z hz; omega))
 have Ey := Lib.hid (Hsm.out y Hyl.out (fun z hz => by have := Hy9.out z hz; omega))
 have Ez := Lib.hid (Hsm.out (mzA x y) (by rw [mzA_length]; exact Hxl.out) (mzA_18 Hx9.out Hy9.out))
 have Hdef := Lib.hid (tuL_mzA (show x.length = y.length by rw [Hxl.out, Hyl.out]) P.length M G)
 go_wp2_with fail
 have HOf := Lib.hid ((tuOf_any HT.out HV1.out (HL.out.ext e6)).mono fun e w' h => of_yes h Ex.out (Hsz.out _ Ex.out))
 refine HOf.out.mono ?_
 rintro e Y2 ⟨⟨gx, rfl, hO⟩, hE⟩
 have e7 := e6.trans hE
 have HS1 := Lib.hid (show SzR Y2 (slv gx P.length P.length) (tuL P.length M G x) by have := hO.val.read; rwa [tuL_length] at this)
 replace x0 := hE.cell x0
 replace x1 := hE.cell x1
 replace x2 := hE.cell x2
 replace x3 := hE.cell x3
 replace HT := Lib.hid (HT.out.ext hE)
 replace HV2 := Lib.hid (HV2.out.ext hE)
 replace HV3 := Lib.hid (HV3.out.ext hE)
 clear hO hE HOf
 go_wp2_with fail
 have HOf := Lib.hid ((tuOf_any HT.out HV2.out (HL.out.ext e7)).mono fun e w' h => of_yes h Ey.out (Hsz.out _ Ey.out))
 refine HOf.out.mono ?_
 rintro e Y3 ⟨⟨gy, rfl, hO⟩, hE⟩
 have e8 := e7.trans hE
 have HS2 := Lib.hid (show SzR Y3 (slv gy P.length P.length) (tuL P.length M G y) by have := hO.val.read; rwa [tuL_length] at this)
 replace x0 := hE.cell x0
 replace x1 := hE.cell x1
 replace x2 := hE.cell x2
 replace x3 := hE.cell x3
 replace HT := Lib.hid (HT.out.ext hE)
 replace HV3 := Lib.hid (HV3.out.ext hE)
 replace HS1 := Lib.hid (HS1.out.ext hE)
 clear hO hE HOf
 go_wp2_with fail
 have HOf := Lib.hid ((tuOf_any HT.out HV3.out (HL.out.ext e8)).mono fun e w' h => of_yes h Ez.out (Hsz.out _ Ez.out))
 refine HOf.out.mono ?_
 rintro e Y4 ⟨⟨gz, rfl, hO⟩, hE⟩
 have e9 := e8.trans hE
 have HS3 := Lib.hid (show SzR Y4 (slv gz P.length P.length) (tuL P.length M G (mzA x y)) by have := hO.val.read; rwa [tuL_length] at this)
 replace x0 := hE.cell x0
 replace x1 := hE.cell x1
 replace x2 := hE.cell x2
 replace x3 := hE.cell x3
 replace HT := Lib.hid (HT.out.ext hE)
 replace HS1 := Lib.hid (HS1.out.ext hE)
 replace HS2 := Lib.hid (HS2.out.ext hE)
 clear hO hE HOf
 go_wp2_with fail
 have hpc := HT.out.tm.pchk
 have Hadd := Lib.hid (szAdd_ok (n := P.length) hpc HS1.out HS2.out (by simp) (by simp) (by omega) (szE_zero (Hsz.out _ Ex.out)) (szE_zero (Hsz.out _ Ey.out)) (by rw [← Hdef.out]; exact szE_zero (Hsz.out _ Ez.out)) (HL.out.ext e9))
 rw [← Hdef.out] at Hadd
 refine Hadd.out.mono ?_
 rintro e Y5 ⟨⟨gs, rfl, hO⟩, hE⟩
 have e10 := e9.trans hE
 have HS4 := Lib.hid (show SzR Y5 (slv gs P.length P.length) (tuL P.length M G (mzA x y)) by have := hO.val.read; rwa [tuL_length] at this)
 replace x0 := hE.cell x0
 replace x1 := hE.cell x1
 replace x2 := hE.cell x2
 replace x3 := hE.cell x3
 replace HT := Lib.hid (HT.out.ext hE)
 replace HS3 := Lib.hid (HS3.out.ext hE)
 have Hqq := Lib.hid (szEqual_any HS3.out HS4.out (by simp; omega))
 rw [decide_eq_true rfl] at Hqq
 clear hO hE Hadd hpc HS1 HS2
 go_wp2_with fail
 refine Hqq.out.mono ?_
 rintro e Y6 ⟨rfl, hE⟩
 have e11 := e10.trans hE
 replace x0 := hE.cell x0
 replace x1 := hE.cell x1
 replace x2 := hE.cell x2
 replace x3 := hE.cell x3
 replace HT := Lib.hid (HT.out.ext hE)
 clear hE Hqq HS3 HS4 Ex Ey Ez Hdef Hx9 Hy9 Hxl Hyl HV1 HV2 HV3 e6 e7 e8 e9 e10
 obtain ⟨sc', gc, oc, cc', vs, ec, hcc, hvl, hSc, hrc⟩ := HT.out.tm.hC
 injection ec with q1 q2 q3
 subst q1 q3
 subst q2
 have HSc := Lib.hid hSc
 have HV := Lib.hid hvl
 have HR := Lib.hid hrc
 have hC4 := isH_len HT.out.tm.ok.kC.1.choose_spec
 have Hc := Lib.hid (fun c (hc : c ∈ C) => tuE_comma HT.out.tm.ok hc)
 have Hz := Lib.hid (fun c (hc : c ∈ C) => tuL_zero (np := P.length) (M := M) (G := G) (tmp_comma HT.out.tm.ok hc))
 clear hSc hvl hrc
 go_wp2_with fail
 go_loopw [21] (fun iv wr => ∃ i : Nat, i ≤ C.length ∧ iv = .int .i64 i ∧ Ext Y6 wr) (fun iv _ => C.length - (intOf iv).toNat)
 case atStart => exact ⟨0, by omega, by go_num, Ext.refl _⟩
 case round =>
  obtain ⟨i, hi, rfl, hE⟩ := hrel
  generalize wr = V at *
  have eV := e11.trans hE
  replace x0 := hE.cell x0
  replace x1 := hE.cell x1
  replace x2 := hE.cell x2
  replace x3 := hE.cell x3
  by_cases hlt : i < C.length
  ·have hii : (i : Int) < (C.length : Int) := by omega
   have hiv : i < vs.length := by rw [HV.out]; exact hlt
   obtain rfl := HSc.out.addr (by omega)
   have k0 := hE.cell (HSc.out.cell i _ (List.getElem?_eq_getElem hiv))
   have hrow := (HR.out i hlt hiv).ext hE
   obtain ⟨ra, rb, ro, rc, ex, hq1, hq2⟩ := hrow
   have hrow : RowR V (.slice ra C[i].length rc) C[i] := ⟨ra, rb, ro, rc, rfl, hq1, hq2⟩
   rw [ex] at k0
   have Hrow := Lib.hid hrow
   have HTV := Lib.hid (HT.out.ext hE)
   have hc4 := Hc.out _ (List.getElem_mem hlt)
   have Hzz := Lib.hid (Hz.out _ (List.getElem_mem hlt))
   obtain ⟨c, hcd⟩ : ∃ c, c = C[i] := ⟨_, rfl⟩
   rw [← hcd] at k0 Hrow hc4 Hzz
   clear ex hq1 hq2 hrow hiv hcd hlt
   obtain ⟨nc, hnc⟩ : ∃ n, n = c.length := ⟨_, rfl⟩
   rw [← hnc] at k0 Hrow
   clear hnc
   rcases hc4 with h0 | h4
   ·have HOf := Lib.hid (fun W (hW : Ext V W) => (tuOf_any (HTV.out.ext hW) (Hrow.out.ext hW) (HL.out.ext (eV.trans hW))).mono fun e w' h => of_yes h h0 (Hsz.out _ h0))
    have H00 := Lib.hid h0
    clear h0
    go_wp2_with fail
    have d0 : Ext V V.drew := (Ext.refl V).drew
    refine wp_region_held_tail (S := fun W => Ext V W) 12 (by kernel_rfl) (by simp) ?_
    intro inv
    generalize V.drew = V1 at *
    refine wpAnyLH_take (i := 0) (v := .agg #[.slice sp P.length cp, .slice (some ⟨gc, oc, none⟩) C.length cc, .slice sm lm cm, .slice sg G.length cg]) rfl (by kernel_rfl) (fun _ _ _ h => h) (.inl ⟨by rfl, fun W hW => by have z0 := hW.cell x0; have z1 := hW.cell x1; have z2 := hW.cell x2; have z3 := hW.cell x3; go_simp⟩) d0 inv ?_
    intro inv
    go_simp
    refine wpAnyLH_take (i := 1) (v := .pointer (some ⟨b5, 0, none⟩)) rfl (by kernel_rfl) (fun _ _ _ h => h) (.inl ⟨by rfl, fun W hW => by go_simp⟩) d0 inv ?_
    intro inv
    go_simp
    refine wpAnyLH_take (i := 2) (v := .pointer (some ⟨b5, 1, none⟩)) rfl (by kernel_rfl) (fun _ _ _ h => h) (.inl ⟨by rfl, fun W hW => by go_simp⟩) d0 inv ?_
    intro inv
    go_simp
    refine wpAnyLH_take (i := 3) (v := .slice (some ⟨gc, oc, none⟩) C.length cc) rfl (by kernel_rfl) (fun _ _ _ h => h) (.inl ⟨by rfl, fun W hW => by have z0 := hW.cell x1; go_simp⟩) d0 inv ?_
    intro inv
    go_simp
    refine wpAnyLH_take (i := 4) (v := .int .i64 i) rfl (by kernel_rfl) (fun _ _ _ h => h) (.inl ⟨by rfl, fun W hW => by go_simp⟩) d0 inv ?_
    intro inv
    go_simp
    refine wpAnyLH_take (i := 5) (v := .pointer (some ⟨gc, oc + i, none⟩)) rfl (by kernel_rfl) (fun _ _ _ h => h) (.inl ⟨by rfl, fun W hW => by go_simp⟩) d0 inv ?_
    intro inv
    go_simp
    refine wpAnyLH_take (i := 6) (v := .slice ra nc rc) rfl (by kernel_rfl) (fun _ _ _ h => h) (.inl ⟨by rfl, fun W hW => by have z0 := hW.cell k0; go_simp⟩) d0 inv ?_
    intro inv
    go_simp
    refine wpAnyLH_oneI (i := 7) rfl (by kernel_rfl) inv (fun inv K0 hK0 => ?_)
    go_simp
    refine (HOf.out _ d0).mono ?_
    rintro e V2 ⟨⟨g, rfl, hO⟩, hG⟩
    have d1 := d0.trans hG
    have HS := Lib.hid (show SzR V2 (slv g P.length P.length) (tuL P.length M G c) by have := hO.val.read; rwa [tuL_length] at this)
    refine hK0 _ _ d1 ?_
    clear hK0 hO
    refine wpAnyLH_take (i := 8) (v := .tuple #[slv g P.length P.length, .int .i64 0]) rfl (by kernel_rfl) (fun _ _ _ h => h) (.inl ⟨by rfl, fun W hW => by go_simp⟩) d1 inv ?_
    intro inv
    go_simp
    refine wpAnyLH_take (i := 9) (v := slv g P.length P.length) rfl (by kernel_rfl) (fun _ _ _ h => h) (.inl ⟨by rfl, fun W hW => by go_simp⟩) d1 inv ?_
    intro inv
    go_simp
    refine wpAnyLH_take (i := 10) (v := .int .i64 0) rfl (by kernel_rfl) (fun _ _ _ h => h) (.inl ⟨by rfl, fun W hW => by go_simp⟩) d1 inv ?_
    intro inv
    go_simp
    refine wpAnyLH_oneI (i := 11) rfl (by kernel_rfl) inv (fun inv K0 hK0 => ?_)
    go_simp
    refine hK0 _ _ d1 ?_
    clear hK0
    refine wpAnyLH_end (by kernel_rfl) ?_
    have HSg := Lib.hid (szSignZ_any (HTV.out.tm.ext d1).pchk HS.out Hzz.out (by omega) (HL.out.ext (eV.trans d1)))
    have hE2 := hE.trans d1
    clear inv d0 d1 hG HOf k0
    go_wp2_with fail
    refine HSg.out.mono ?_
    rintro e V3 ⟨rfl, hG3⟩
    have hE3 := hE2.trans hG3
    clear HSg HS hG3
    go_wp2_with fail
    go_roundw
    case rel => exact ⟨i + 1, by omega, by go_num, hE3⟩
    case measure => simp [intOf] <;> omega
   ·have HOf := Lib.hid (fun W (hW : Ext V W) => (tuOf_any (HTV.out.ext hW) (Hrow.out.ext hW) (HL.out.ext (eV.trans hW))).mono fun e w' h => of_no h (by rw [h4]; decide))
    rw [h4] at HOf
    have H00 := Lib.hid h4
    clear h4
    go_wp2_with fail
    have d0 : Ext V V.drew := (Ext.refl V).drew
    refine wp_region_held_tail (S := fun W => Ext V W) 12 (by kernel_rfl) (by simp) ?_
    intro inv
    generalize V.drew = V1 at *
    refine wpAnyLH_take (i := 0) (v := .agg #[.slice sp P.length cp, .slice (some ⟨gc, oc, none⟩) C.length cc, .slice sm lm cm, .slice sg G.length cg]) rfl (by kernel_rfl) (fun _ _ _ h => h) (.inl ⟨by rfl, fun W hW => by have z0 := hW.cell x0; have z1 := hW.cell x1; have z2 := hW.cell x2; have z3 := hW.cell x3; go_simp⟩) d0 inv ?_
    intro inv
    go_simp
    refine wpAnyLH_take (i := 1) (v := .pointer (some ⟨b5, 0, none⟩)) rfl (by kernel_rfl) (fun _ _ _ h => h) (.inl ⟨by rfl, fun W hW => by go_simp⟩) d0 inv ?_
    intro inv
    go_simp
    refine wpAnyLH_take (i := 2) (v := .pointer (some ⟨b5, 1, none⟩)) rfl (by kernel_rfl) (fun _ _ _ h => h) (.inl ⟨by rfl, fun W hW => by go_simp⟩) d0 inv ?_
    intro inv
    go_simp
    refine wpAnyLH_take (i := 3) (v := .slice (some ⟨gc, oc, none⟩) C.length cc) rfl (by kernel_rfl) (fun _ _ _ h => h) (.inl ⟨by rfl, fun W hW => by have z0 := hW.cell x1; go_simp⟩) d0 inv ?_
    intro inv
    go_simp
    refine wpAnyLH_take (i := 4) (v := .int .i64 i) rfl (by kernel_rfl) (fun _ _ _ h => h) (.inl ⟨by rfl, fun W hW => by go_simp⟩) d0 inv ?_
    intro inv
    go_simp
    refine wpAnyLH_take (i := 5) (v := .pointer (some ⟨gc, oc + i, none⟩)) rfl (by kernel_rfl) (fun _ _ _ h => h) (.inl ⟨by rfl, fun W hW => by go_simp⟩) d0 inv ?_
    intro inv
    go_simp
    refine wpAnyLH_take (i := 6) (v := .slice ra nc rc) rfl (by kernel_rfl) (fun _ _ _ h => h) (.inl ⟨by rfl, fun W hW => by have z0 := hW.cell k0; go_simp⟩) d0 inv ?_
    intro inv
    go_simp
    refine wpAnyLH_oneI (i := 7) rfl (by kernel_rfl) inv (fun inv K0 hK0 => ?_)
    go_simp
    refine (HOf.out _ d0).mono ?_
    rintro e V2 ⟨rfl, hG⟩
    have d1 := d0.trans hG
    refine hK0 _ _ d1 ?_
    clear hK0
    refine wpAnyLH_take (i := 8) (v := .tuple #[.slice none 0 0, .int .i64 4]) rfl (by kernel_rfl) (fun _ _ _ h => h) (.inl ⟨by rfl, fun W hW => by go_simp⟩) d1 inv ?_
    intro inv
    go_simp
    refine wpAnyLH_take (i := 9) (v := .slice none 0 0) rfl (by kernel_rfl) (fun _ _ _ h => h) (.inl ⟨by rfl, fun W hW => by go_simp⟩) d1 inv ?_
    intro inv
    go_simp
    refine wpAnyLH_take (i := 10) (v := .int .i64 4) rfl (by kernel_rfl) (fun _ _ _ h => h) (.inl ⟨by rfl, fun W hW => by go_simp⟩) d1 inv ?_
    intro inv
    go_simp
    refine wpAnyLH_oneI (i := 11) rfl (by kernel_rfl) inv (fun inv K0 hK0 => ?_)
    go_simp
    refine hK0 _ _ d1 ?_
    clear hK0
    refine wpAnyLH_end (by kernel_rfl) ?_
    have hE2 := hE.trans d1
    clear inv d0 d1 hG HOf k0
    go_wp2_with fail
    go_roundw
    case rel => exact ⟨i + 1, by omega, by go_num, hE2⟩
    case measure => simp [intOf] <;> omega
  ·obtain rfl : i = C.length := by omega
   have hii : ¬ (C.length : Int) < (C.length : Int) := by omega
   go_wp2_with fail
   go_ret
   exact ⟨rfl, eV⟩
end Go.Proofs.YtedlgnoiojcjaaaGreatDoor
namespace Go.Proofs.YtedlgnoiojcjaaaGreatDoor
open Go.ChangeShapes Go.WideShapes Go.ChangeAt Go.WideMaps Go.WideElems Go.RowKit Go.Deep
theorem fr_own : ownKnob Tryz.prog.godebug = none := by kernel_rfl
theorem fr_laidOut : laidOutB Tryz.prog = true := by kernel_rfl
theorem fr_pow : Tryz.prog.globalNamed "internal/strconv.uint64pow10" = some 3 := by kernel_rfl
theorem fr_powT : (Tryz.prog.globals[3]?).map (·.type) = some 343 := by kernel_rfl
theorem fr_rng : Tryz.prog.globalNamed "strconv.ErrRange" = some 2 := by kernel_rfl
theorem fr_rngT : (Tryz.prog.globals[2]?).map (·.type) = some 203 := by kernel_rfl
theorem fr_c20 : Tryz.prog.cellsOf 343 = 20 := by kernel_rfl
theorem fr_cu : Tryz.prog.cellsOf 250 = 1 := by kernel_rfl
theorem fr_cE : Tryz.prog.cellsOf 348 = 1 := by kernel_rfl
theorem fr_cS : Tryz.prog.cellsOf 9 = 1 := by kernel_rfl
theorem fr_star : "*" ++ "errors.errorString" = "*errors.errorString" := by decide
theorem fr_ptr (u : TypeId) (h : Tryz.prog.typeName? 3 u = some "*errors.errorString") : u = 346 :=
 typeName_ptr_named (nm := "errors.errorString") (by rw [fr_star]; kernel_rfl) (by kernel_rfl) (by decide) u (by rw [fr_star]; exact h)
abbrev fr_list : List (String × DataW Unit) := [("math/bits.deBruijn32tab", Rows.laid_math_bits_deBruijn32tab), ("math/bits.deBruijn64tab", Rows.laid_math_bits_deBruijn64tab), ("internal/strconv.uint64pow10", Rows.laid_internal_strconv_uint64pow10), ("strconv.ErrRange", Rows.laid_strconv_ErrRange), ("strconv.ErrSyntax", Rows.laid_strconv_ErrSyntax)]
theorem fr_tab : (Rows.laid_internal_strconv_uint64pow10 : DataW Unit) = Lib.tabData .u64 Lib.pow10Tab := by kernel_rfl
theorem laid_of {W : World} (h : laidMetH Tryz.prog fr_list W) : Laid W := by
 rw [MakeChecks.laidMetH_plain _ _ _ (by kernel_rfl)] at h
 have h3 := h.tail.tail
 rw [fr_tab] at h3
 refine ⟨Lib.tabIs_of_head fr_pow fr_powT Tryz.underlying343 Tryz.underlying250 fr_cu fr_c20 h3, ?_⟩
 obtain ⟨a, s, hv, _⟩ := laid_sentinel h3.tail fr_rng fr_rngT Tryz.underlying203 fr_ptr Tryz.underlying346 Tryz.underlying348 rfl rfl Tryz.underlying9 fr_cE fr_cS
 exact ⟨_, _, hv⟩
theorem door_met (os : Os) (args : Array Value) : laidMetH Tryz.prog fr_list ((World.doorLaid Tryz.prog 400 os).forCall (fun _ _ => 0) ⟨#[], args, []⟩).memory :=
 laidMetH_of_parts3 (fuel := 8) (laidMet_of_run' 8 (by kernel_rfl) (by kernel_rfl)) (by kernel_rfl) (by kernel_rfl)
theorem fr_c8 : Tryz.prog.cellsOf 25 = 1 := by kernel_rfl
theorem take_one {l : List Value} {k : Nat} {x : Value} (h : (l.drop k).take 1 = [x]) : l[k]? = some x := by
 have := congrArg (·[0]?) h
 simpa [List.getElem?_take] using this
theorem i8_bounds {n : Int} (h : (Lit.int .i8 n).wf = true) : -128 ≤ n ∧ n ≤ 127 := by
 simp only [Lit.wf, Bool.and_eq_true, decide_eq_true_eq] at h
 have e1 : IntKind.i8.min = -128 := by rfl
 have e2 : IntKind.i8.max = 127 := by rfl
 omega
theorem u8_bounds {n : Int} (h : (Lit.int .u8 n).wf = true) : 0 ≤ n ∧ n ≤ 255 := by
 simp only [Lit.wf, Bool.and_eq_true, decide_eq_true_eq] at h
 have e1 : IntKind.u8.min = 0 := by rfl
 have e2 : IntKind.u8.max = 255 := by rfl
 omega
theorem i8_cells {H : Type} {enc : TypeId × Value → H} {W : World} {base : Nat} {sp : Nat → Bool} {held : Bool} {fuel n : Nat} {t : TypeId} {l : List Value} {x : DataW H × List MemPlace} (ht : Tryz.prog.underlying t = some (.array n 25))
  (h : DataW.trod enc Tryz.prog W base sp held fuel t l = some x) : ∀ j, j < n → ∃ z : Int, l[j]? = some (.int .i8 z) ∧ -128 ≤ z ∧ z ≤ 127 := by
 obtain ⟨xs, m, _, _, _, hxl, hx⟩ := DataW.trod_array ht h
 intro j hj
 have h1 := hx j hj
 rw [fr_c8, Nat.mul_one, List.getElem?_eq_getElem (by omega)] at h1
 obtain ⟨z, hz, _, hw⟩ := DataW.trod_int Tryz.underlying25 h1
 exact ⟨z, take_one hz, i8_bounds hw⟩
theorem fr_cA4 : Tryz.prog.cellsOf 33 = 4 := by kernel_rfl
theorem cells_four {W : World} {base : Nat} {a : Addr} {l : List Value} (h : W.cells? base a 4 = some l) : ∀ j, j < 4 → W.cell? (a.add j) = l[j]? := by
 unfold World.cells? at h
 split at h
 case isFalse => cases h
 intro j hj
 have hj2 := Go.mapM_some_get h j
 have hl : l.length = 4 := by
  have := Go.mapM_some_length h
  simpa using this
 have h0 := hj2 j (by simp [hj])
 simpa using h0
theorem rowsA_open {H : Type} {enc : TypeId × Value → H} {W : World} {base : Nat} {held : Bool} {fuel : Nat} {l : List Value} {x : DataW H × List MemPlace}
  (h : DataW.trod enc Tryz.prog W base (fun _ => true) held fuel 22 l = some x) : ∃ v Z, l = [v] ∧ RowsA W v Z := by
 rcases open_slice Tryz.underlying22 h with ⟨hcs, _⟩ | ⟨a, len, cap, m, n, D, Pl, hcs, _, hl, hmx, hm, _, hel⟩
 ·exact ⟨.slice none 0 0, [], hcs, none, 0, 0, 0, rfl, Nat.le_refl _, fun h => by simp at h, fun i h => by simp at h, fun i h => by simp at h⟩
 ·rw [if_pos rfl] at hm
  subst hm
  rw [fr_cA4] at hel
  have hex : ∀ i, i < len → ∃ zs : List Int, (zs.length = 4 ∧ ∀ z ∈ zs, -128 ≤ z ∧ z ≤ 127) ∧ ∀ j, j < 4 → W.cell? (a.add (i * 4 + j)) = some (.int .i8 (zs.getD j 0)) := by
   intro i hi
   obtain ⟨cs', h1, h2⟩ := hel i (by omega)
   have h3 := i8_cells Tryz.underlying33 h2
   have h4 := cells_four h1
   obtain ⟨z0, k0, b0⟩ := h3 0 (by omega)
   obtain ⟨z1, k1, b1⟩ := h3 1 (by omega)
   obtain ⟨z2, k2, b2⟩ := h3 2 (by omega)
   obtain ⟨z3, k3, b3⟩ := h3 3 (by omega)
   refine ⟨[z0, z1, z2, z3], ⟨rfl, fun z hz => ?_⟩, fun j hj => ?_⟩
   ·simp only [List.mem_cons, List.not_mem_nil, or_false] at hz
    rcases hz with rfl | rfl | rfl | rfl <;> assumption
   ·rw [← add_add, h4 j hj]
    rcases (show j = 0 ∨ j = 1 ∨ j = 2 ∨ j = 3 by omega) with rfl | rfl | rfl | rfl
    ·exact k0
    ·exact k1
    ·exact k2
    ·exact k3
  obtain ⟨f, hf⟩ := choose_lt hex
  have hsp : 0 < len → a.spot = none := fun h => by simpa [Addr.add] using World.cell?_spot ((hf 0 h).2 0 (by omega))
  obtain ⟨b, o, sp⟩ := a
  refine ⟨_, (List.range len).map f, hcs, some ⟨b, o, sp⟩, b, o, m, by simp, by simpa using hl, fun h => ?_, fun i hi => ?_, fun i hi j hj => ?_⟩
  ·have := hsp (by simpa using h)
   simp at this
   rw [this]
  ·have hi' : i < len := by simpa using hi
   simpa using (hf i hi').1
  ·have hi' : i < len := by simpa using hi
   have := hsp (by omega)
   simp at this
   subst this
   have k1 := (hf i hi').2 j hj
   rw [add_plain] at k1
   rw [show o + 4 * i + j = o + (i * 4 + j) by omega, k1]
   simp
theorem list3t {l : List Value} {a b c : Value} (hl : l.length = 3) (h0 : (l.drop 0).take 1 = [a]) (h1 : (l.drop 1).take 1 = [b]) (h2 : (l.drop 2).take 1 = [c]) : l = [a, b, c] := by
 match l, hl with
 | [p, q, r], _ =>
  simp at h0 h1 h2
  subst h0 h1 h2
  rfl
theorem plan18_open {H : Type} {enc : TypeId × Value → H} {W : World} {base : Nat} {held : Bool} {fuel : Nat} {cs : Array Value} {x : DataW H × List MemPlace} (hs : cs.size = 3)
  (h : DataW.trod enc Tryz.prog W base (fun _ => true) held fuel 24 cs.toList = some x) : ∃ b rv vals Z, cs = #[.int .u8 b, rv, .bool vals] ∧ (0 ≤ b ∧ b ≤ 255) ∧ RowsA W rv Z := by
 obtain ⟨xs, n, _, _, _, hxl, hx⟩ := DataW.trod_struct Tryz.underlying24 h
 have hx3 : xs.length = 3 := hxl
 have h0 := hx 0 _ rfl
 have h1 := hx 1 _ rfl
 have h2 := hx 2 _ rfl
 rw [List.getElem?_eq_getElem (by omega)] at h0 h1 h2
 have h0' : DataW.trod enc Tryz.prog W base (fun _ => true) held n 5 ((cs.toList.drop 0).take 1) = some xs[0] := h0
 have h1' : DataW.trod enc Tryz.prog W base (fun _ => true) held n 22 ((cs.toList.drop 1).take 1) = some xs[1] := h1
 have h2' : DataW.trod enc Tryz.prog W base (fun _ => true) held n 4 ((cs.toList.drop 2).take 1) = some xs[2] := h2
 obtain ⟨b, hb, _, wb⟩ := DataW.trod_int Tryz.underlying5 h0'
 obtain ⟨v, Z, hv, hZ⟩ := rowsA_open h1'
 obtain ⟨vals, hvl, _⟩ := DataW.trod_bool Tryz.underlying4 h2'
 have hl := list3t (by simpa using hs) hb hv hvl
 exact ⟨b, v, vals, Z, by rw [show cs = cs.toList.toArray from Array.toArray_toList.symm, hl], u8_bounds wb, hZ⟩
theorem fr_cP24 : Tryz.prog.cellsOf 32 = 35 := by kernel_rfl
theorem fr_cPart : Tryz.prog.cellsOf 27 = 2 := by kernel_rfl
theorem fr_cParts : Tryz.prog.cellsOf 29 = 8 := by kernel_rfl
def zval (v : Option Value) : Int := match v with
 | some (.int _ z) => z
 | _ => 0
theorem part_cells {H : Type} {enc : TypeId × Value → H} {W : World} {base : Nat} {sp : Nat → Bool} {held : Bool} {fuel : Nat} {l : List Value} {x : DataW H × List MemPlace}
  (h : DataW.trod enc Tryz.prog W base sp held fuel 27 l = some x) : ∃ a b : Int, l[0]? = some (.int .i8 a) ∧ l[1]? = some (.int .u8 b) ∧ (0 ≤ b ∧ b ≤ 255) := by
 obtain ⟨xs, n, _, _, _, hxl, hx⟩ := DataW.trod_struct Tryz.underlying27 h
 have hx3 : xs.length = 2 := hxl
 have h0 := hx 0 _ rfl
 have h1 := hx 1 _ rfl
 rw [List.getElem?_eq_getElem (by omega)] at h0 h1
 have h0' : DataW.trod enc Tryz.prog W base sp held n 25 ((l.drop 0).take 1) = some xs[0] := h0
 have h1' : DataW.trod enc Tryz.prog W base sp held n 5 ((l.drop 1).take 1) = some xs[1] := h1
 obtain ⟨a, ha, _, _⟩ := DataW.trod_int Tryz.underlying25 h0'
 obtain ⟨b, hb, _, wb⟩ := DataW.trod_int Tryz.underlying5 h1'
 exact ⟨a, b, take_one ha, take_one hb, u8_bounds wb⟩
theorem parts_cells {H : Type} {enc : TypeId × Value → H} {W : World} {base : Nat} {sp : Nat → Bool} {held : Bool} {fuel : Nat} {l : List Value} {x : DataW H × List MemPlace}
  (h : DataW.trod enc Tryz.prog W base sp held fuel 29 l = some x) : ∀ j, j < 4 → ∃ a b : Int, l[2 * j]? = some (.int .i8 a) ∧ l[2 * j + 1]? = some (.int .u8 b) ∧ (0 ≤ b ∧ b ≤ 255) := by
 obtain ⟨xs, m, _, _, _, hxl, hx⟩ := DataW.trod_array Tryz.underlying29 h
 intro j hj
 have h1 := hx j hj
 rw [fr_cPart, List.getElem?_eq_getElem (by omega)] at h1
 obtain ⟨a, b, ha, hb, hr⟩ := part_cells h1
 rw [List.getElem?_take, if_pos (by omega), List.getElem?_drop] at ha hb
 exact ⟨a, b, by rw [Nat.mul_comm]; exact ha, by rw [Nat.mul_comm]; exact hb, hr⟩
theorem gens_cells {H : Type} {enc : TypeId × Value → H} {W : World} {base : Nat} {sp : Nat → Bool} {held : Bool} {fuel : Nat} {l : List Value} {x : DataW H × List MemPlace}
  (h : DataW.trod enc Tryz.prog W base sp held fuel 30 l = some x) : ∀ i, i < 4 → ∀ j, j < 4 → ∃ a b : Int, l[i * 8 + 2 * j]? = some (.int .i8 a) ∧ l[i * 8 + 2 * j + 1]? = some (.int .u8 b) ∧ (0 ≤ b ∧ b ≤ 255) := by
 obtain ⟨xs, m, _, _, _, hxl, hx⟩ := DataW.trod_array Tryz.underlying30 h
 intro i hi j hj
 have h1 := hx i hi
 rw [fr_cParts, List.getElem?_eq_getElem (by omega)] at h1
 obtain ⟨a, b, ha, hb, hr⟩ := parts_cells h1 j hj
 rw [List.getElem?_take, if_pos (by omega), List.getElem?_drop] at ha hb
 exact ⟨a, b, ha, hb, hr⟩
def plA (l : List Value) (i t : Nat) : Int := if i < 4 ∧ t < 4 then zval l[i * 8 + 2 * t]? else 0
def plB (l : List Value) (i t : Nat) : Int := if i < 4 ∧ t < 4 then zval l[i * 8 + 2 * t + 1]? else 0
theorem list35 {l : List Value} {a b c : Value} {d : List Value} (hl : l.length = 35) (h0 : (l.drop 0).take 3 = [a, b, c]) (hd : (l.drop 3).take 32 = d) : l = a :: b :: c :: d := by
 have h1 : l = l.take 3 ++ l.drop 3 := (List.take_append_drop 3 l).symm
 have h2 : (l.drop 3).take 32 = l.drop 3 := List.take_of_length_le (by rw [List.length_drop, hl]; omega)
 rw [h1, ← h2, hd, show l.take 3 = [a, b, c] from h0]; rfl
theorem plan24_open {H : Type} {enc : TypeId × Value → H} {W : World} {base : Nat} {held : Bool} {fuel : Nat} {cs : Array Value} {x : DataW H × List MemPlace} (hs : cs.size = 35)
  (h : DataW.trod enc Tryz.prog W base (fun _ => true) held fuel 32 cs.toList = some x) : ∃ b rv vals A B Z, Value.agg cs = planT b rv vals A B ∧ (0 ≤ b ∧ b ≤ 255) ∧ RowsA W rv Z ∧ ∀ i t, 0 ≤ B i t ∧ B i t ≤ 255 := by
 obtain ⟨xs, n, _, _, _, hxl, hx⟩ := DataW.trod_struct Tryz.underlying32 h
 have hx3 : xs.length = 2 := hxl
 have h0 := hx 0 _ rfl
 have h1 := hx 1 _ rfl
 rw [List.getElem?_eq_getElem (by omega)] at h0 h1
 have h0' : DataW.trod enc Tryz.prog W base (fun _ => true) held n 24 ((cs.toList.drop 0).take 3) = some xs[0] := h0
 have h1' : DataW.trod enc Tryz.prog W base (fun _ => true) held n 30 ((cs.toList.drop 3).take 32) = some xs[1] := h1
 have hl : cs.toList.length = 35 := by simpa using hs
 obtain ⟨b, rv, vals, Z, hp, hb, hZ⟩ := plan18_open (cs := ((cs.toList.drop 0).take 3).toArray) (by rw [List.size_toArray, List.length_take, List.length_drop, hl]; rfl) h0'
 have hg := gens_cells h1'
 have hp' : (cs.toList.drop 0).take 3 = [.int .u8 b, rv, .bool vals] := congrArg Array.toList hp
 obtain ⟨d, hd⟩ : ∃ d, d = (cs.toList.drop 3).take 32 := ⟨_, rfl⟩
 rw [← hd] at hg
 have hdl : d.length = 32 := by rw [hd, List.length_take, List.length_drop, hl]; rfl
 have hA : ∀ i, i < 4 → ∀ j, j < 4 → d[i * 8 + 2 * j]? = some (.int .i8 (plA d i j)) ∧ d[i * 8 + 2 * j + 1]? = some (.int .u8 (plB d i j)) ∧ 0 ≤ plB d i j ∧ plB d i j ≤ 255 := fun i hi j hj => by
  obtain ⟨a, b, ha, hb, hr⟩ := hg i hi j hj
  have e1 : plA d i j = a := by unfold plA; rw [if_pos ⟨hi, hj⟩, ha]; rfl
  have e2 : plB d i j = b := by unfold plB; rw [if_pos ⟨hi, hj⟩, hb]; rfl
  rw [e1, e2]; exact ⟨ha, hb, hr⟩
 refine ⟨b, rv, vals, plA d, plB d, Z, ?_, hb, hZ, fun i t => ?_⟩
 ·have hD : d = [.int .i8 (plA d 0 0), .int .u8 (plB d 0 0), .int .i8 (plA d 0 1), .int .u8 (plB d 0 1), .int .i8 (plA d 0 2), .int .u8 (plB d 0 2), .int .i8 (plA d 0 3), .int .u8 (plB d 0 3), .int .i8 (plA d 1 0), .int .u8 (plB d 1 0), .int .i8 (plA d 1 1), .int .u8 (plB d 1 1), .int .i8 (plA d 1 2), .int .u8 (plB d 1 2), .int .i8 (plA d 1 3), .int .u8 (plB d 1 3), .int .i8 (plA d 2 0), .int .u8 (plB d 2 0), .int .i8 (plA d 2 1), .int .u8 (plB d 2 1), .int .i8 (plA d 2 2), .int .u8 (plB d 2 2), .int .i8 (plA d 2 3), .int .u8 (plB d 2 3), .int .i8 (plA d 3 0), .int .u8 (plB d 3 0), .int .i8 (plA d 3 1), .int .u8 (plB d 3 1), .int .i8 (plA d 3 2), .int .u8 (plB d 3 2), .int .i8 (plA d 3 3), .int .u8 (plB d 3 3)] := by
   refine List.ext_getElem? fun n => ?_
   match n with
   | 0 => exact (hA 0 (by omega) 0 (by omega)).1
   | 1 => exact (hA 0 (by omega) 0 (by omega)).2.1
   | 2 => exact (hA 0 (by omega) 1 (by omega)).1
   | 3 => exact (hA 0 (by omega) 1 (by omega)).2.1
   | 4 => exact (hA 0 (by omega) 2 (by omega)).1
   | 5 => exact (hA 0 (by omega) 2 (by omega)).2.1
   | 6 => exact (hA 0 (by omega) 3 (by omega)).1
   | 7 => exact (hA 0 (by omega) 3 (by omega)).2.1
   | 8 => exact (hA 1 (by omega) 0 (by omega)).1
   | 9 => exact (hA 1 (by omega) 0 (by omega)).2.1
   | 10 => exact (hA 1 (by omega) 1 (by omega)).1
   | 11 => exact (hA 1 (by omega) 1 (by omega)).2.1
   | 12 => exact (hA 1 (by omega) 2 (by omega)).1
   | 13 => exact (hA 1 (by omega) 2 (by omega)).2.1
   | 14 => exact (hA 1 (by omega) 3 (by omega)).1
   | 15 => exact (hA 1 (by omega) 3 (by omega)).2.1
   | 16 => exact (hA 2 (by omega) 0 (by omega)).1
   | 17 => exact (hA 2 (by omega) 0 (by omega)).2.1
   | 18 => exact (hA 2 (by omega) 1 (by omega)).1
   | 19 => exact (hA 2 (by omega) 1 (by omega)).2.1
   | 20 => exact (hA 2 (by omega) 2 (by omega)).1
   | 21 => exact (hA 2 (by omega) 2 (by omega)).2.1
   | 22 => exact (hA 2 (by omega) 3 (by omega)).1
   | 23 => exact (hA 2 (by omega) 3 (by omega)).2.1
   | 24 => exact (hA 3 (by omega) 0 (by omega)).1
   | 25 => exact (hA 3 (by omega) 0 (by omega)).2.1
   | 26 => exact (hA 3 (by omega) 1 (by omega)).1
   | 27 => exact (hA 3 (by omega) 1 (by omega)).2.1
   | 28 => exact (hA 3 (by omega) 2 (by omega)).1
   | 29 => exact (hA 3 (by omega) 2 (by omega)).2.1
   | 30 => exact (hA 3 (by omega) 3 (by omega)).1
   | 31 => exact (hA 3 (by omega) 3 (by omega)).2.1
   | n + 32 => rw [List.getElem?_eq_none (by omega), List.getElem?_eq_none (by simp)]
  have hc := list35 hl hp' hd.symm
  rw [hD] at hc
  show Value.agg cs = _
  rw [show cs = cs.toList.toArray from Array.toArray_toList.symm, hc]
 ·by_cases hit : i < 4 ∧ t < 4
  ·exact (hA i hit.1 t hit.2).2.2
  ·unfold plB; rw [if_neg hit]; omega
theorem okWide_arr {P : Program} {w : World} {r : Reach} {base : Nat} {t e : TypeId} {n : Nat} {v : Value} (ht : P.underlying t = some (.array n e)) (h : Value.okWide P w r base t v) : ∃ cs, v = .agg cs ∧ cs.size = P.cellsOf t := by
 simp only [Value.okWide, ht] at h
 obtain ⟨cs, h1, h2, _⟩ := h
 exact ⟨cs, h1, h2⟩
end Go.Proofs.YtedlgnoiojcjaaaGreatDoor
