/- Part 39 of the proof of the claim: contracts of the functions that it reaches, and plain laws; no condition. -/
import Derived.Test.YtedlgnoiojcjaaaGreatDoorV01
import Derived.Test.YtedlgnoiojcjaaaGreatDoorV36
import Derived.Test.YtedlgnoiojcjaaaGreatDoorV38
import Derived.Test.YtedlgnoiojcjaaaGreatDoorV34
import Derived.BigFrame
import Derived.Laws.Rows
set_option maxRecDepth 100000
namespace Go.Proofs.YtedlgnoiojcjaaaGreatDoor
open Go.RowKit Go.Sort
def mk2G (B0 : Nat) (cs ds : Array Value) (b b' : Int) (A B A' B' : Nat → Nat → Int) : Nat → Value → World → Prop
 | 0, v, _ => v = .agg cs
 | 1, v, w => ∃ C M, TuR w v (prL b) C M (mkG A B (prL b).length M.length)
 | 2, v, _ => v = .agg ds
 | 3, v, w => ∃ C M, TuR w v (prL b') C M (mkG A' B' (prL b').length M.length)
 | _, v, w => ∃ bb, v = .pointer (some ⟨bb, 0, none⟩) ∧ B0 ≤ bb ∧ OwnV 44 0 w bb 4 [.slice none 0 0, .slice none 0 0, .slice none 0 0, .slice none 0 0]
theorem mk2G_ext {B0 : Nat} {cs ds : Array Value} {b b' : Int} {A B A' B' : Nat → Nat → Int} (j : Nat) (v : Value) (w w' : World) (h : mk2G B0 cs ds b b' A B A' B' j v w) (hE : Ext w w') : mk2G B0 cs ds b b' A B A' B' j v w' := by
 unfold mk2G at h ⊢
 split at h
 ·exact h
 ·obtain ⟨C, M, h⟩ := h; exact ⟨C, M, h.ext hE⟩
 ·exact h
 ·obtain ⟨C, M, h⟩ := h; exact ⟨C, M, h.ext hE⟩
 ·obtain ⟨bb, h1, h2, h3⟩ := h; exact ⟨bb, h1, h2, h3.ext hE⟩
def mk2D (j : Nat) : Nat := if j < 4 then 43 + j else j + 3
def mk2R (i j : Nat) (v u : Value) : Prop := (i = 4 ∧ j = 5) ∨ (i = 5 ∧ j = 4) → v ≠ u
set_option maxHeartbeats 16000000 in
theorem bls_walk {w : World} {b b' : Int} {rv rv' : Value} {Z Z' : List (List Int)} {vals vals' : Bool} {A B A' B' : Nat → Nat → Int} {ka kb : List UInt8} (hb : 0 ≤ b ∧ b ≤ 255) (hR : RowsA w rv Z) (hB : ∀ i t, 0 ≤ B i t ∧ B i t ≤ 255) (hb' : 0 ≤ b' ∧ b' ≤ 255) (hR' : RowsA w rv' Z') (hB' : ∀ i t, 0 ≤ B' i t ∧ B' i t ≤ 255) (hL : Laid w) :
  Calls Tryz.prog 5 #[planT b rv vals A B, planT b' rv' vals' A' B', .agg #[S ka, S kb]] w fun e w' => e = .returned (.bool true) ∧ Ext w w' := by
 have hkn := Lib.hid (fun W (hW : Ext w W) => known24_any (hL.ext hW))
 have hft := Lib.hid (fun W (hW : Ext w W) => fits24_any (b := b) (vals := vals) (A := A) (B := B) (hR.ext hW))
 have hft' := Lib.hid (fun W (hW : Ext w W) => fits24_any (b := b') (vals := vals') (A := A') (B := B') (hR'.ext hW))
 have hmk := Lib.hid (fun W (hW : Ext w W) (h3 : Z.length ≤ 3) => make24_any (vals := vals) (A := A) hb (hR.ext hW) h3 hB (hL.ext hW))
 have hmk' := Lib.hid (fun W (hW : Ext w W) (h3 : Z'.length ≤ 3) => make24_any (vals := vals') (A := A') hb' (hR'.ext hW) h3 hB' (hL.ext hW))
 have HL := Lib.hid hL
 obtain ⟨cs, hcs⟩ : ∃ cs, Value.agg cs = planT b rv vals A B := ⟨_, rfl⟩
 obtain ⟨ds, hds⟩ : ∃ ds, Value.agg ds = planT b' rv' vals' A' B' := ⟨_, rfl⟩
 have hsz : cs.size = 35 := by
  injection hcs with h
  rw [h]; rfl
 have hsz' : ds.size = 35 := by
  injection hds with h
  rw [h]; rfl
 have hinf : (Tryz.prog.info? 32).map (·.size) = some cs.size := by rw [hsz]; kernel_rfl
 have hinf' : (Tryz.prog.info? 32).map (·.size) = some ds.size := by rw [hsz']; kernel_rfl
 simp only [← hcs, ← hds] at hft hft' hmk hmk' ⊢
 clear hcs hds hsz hsz' hb hR hB hb' hR' hB' hL
 have hX := (((Ext.refl w).alloc (.cells cs 32)).alloc (.cells ds 32)).alloc (.cells #[S ka, S kb] 63)
 have hg : (((w.alloc (.cells cs 32)).alloc (.cells ds 32)).alloc (.cells #[S ka, S kb] 63)).heap[w.heap.size]? = some (.cells cs 32 (0, 0)) := by
  have hA : Ext (w.alloc (.cells cs 32)) (((w.alloc (.cells cs 32)).alloc (.cells ds 32)).alloc (.cells #[S ka, S kb] 63)) := ((Ext.refl _).alloc _).alloc _
  exact (hA.block _ (by simp)).trans (heap_alloc_new _ _)
 have hg' : (((w.alloc (.cells cs 32)).alloc (.cells ds 32)).alloc (.cells #[S ka, S kb] 63)).heap[w.heap.size + 1]? = some (.cells ds 32 (0, 0)) := by
  have hA : Ext ((w.alloc (.cells cs 32)).alloc (.cells ds 32)) (((w.alloc (.cells cs 32)).alloc (.cells ds 32)).alloc (.cells #[S ka, S kb] 63)) := (Ext.refl _).alloc _
  have := heap_alloc_new (w.alloc (.cells cs 32)) (.cells ds 32)
  rw [show (w.alloc (.cells cs 32)).heap.size = w.heap.size + 1 by simp] at this
  exact (hA.block _ (by simp)).trans this
 have r0 : (((w.alloc (.cells cs 32)).alloc (.cells ds 32)).alloc (.cells #[S ka, S kb] 63)).cell? ⟨w.heap.size + 1 + 1, 0, none⟩ = some (S ka) := by go_simp
 have r1 : (((w.alloc (.cells cs 32)).alloc (.cells ds 32)).alloc (.cells #[S ka, S kb] 63)).cell? ⟨w.heap.size + 1 + 1, 1, none⟩ = some (S kb) := by go_simp
 by_cases hz : Z.length ≤ 3
 case neg =>
  simp only [decide_eq_false hz] at hft
  clear hz
  go_enter Tryz.func5, Tryz.ntmps5
  go_wp2_with fail
  refine (hkn.out _ hX).mono ?_
  rintro e W1 ⟨rfl, hE1⟩
  have hg1 := (hE1.block _ (Array.getElem?_eq_some_iff.1 hg).1).trans hg
  have hg1' := (hE1.block _ (Array.getElem?_eq_some_iff.1 hg').1).trans hg'
  replace r0 := hE1.cell r0
  replace r1 := hE1.cell r1
  have e1 := hX.trans hE1
  clear hg hg' hE1
  go_wp2_with (refine BigFrame.wpList_want (by rfl) fun K hK => wp_load_row 32 _ rfl w.heap.size rfl 32 cs (0, 0) _ hg1 Tryz.underlying32 rfl hinf (hK _ _ ?_))
  refine (hft.out _ e1).mono ?_
  rintro e W2 ⟨rfl, hE2⟩
  have hg2 := (hE2.block _ (Array.getElem?_eq_some_iff.1 hg1).1).trans hg1
  have hg2' := (hE2.block _ (Array.getElem?_eq_some_iff.1 hg1').1).trans hg1'
  replace r0 := hE2.cell r0
  replace r1 := hE2.cell r1
  have e2 := e1.trans hE2
  clear hg1 hg1' hE2 hft
  go_wp2_with fail
  refine (hkn.out _ e2).mono ?_
  rintro e W9 ⟨rfl, hE9⟩
  go_wp2_with fail
  go_ret
  exact ⟨rfl, Ext.trans e2 hE9⟩
 simp only [decide_eq_true hz] at hft
 by_cases hz' : Z'.length ≤ 3
 case neg =>
  simp only [decide_eq_false hz'] at hft'
  clear hz' hz
  go_enter Tryz.func5, Tryz.ntmps5
  go_wp2_with fail
  refine (hkn.out _ hX).mono ?_
  rintro e W1 ⟨rfl, hE1⟩
  have hg1 := (hE1.block _ (Array.getElem?_eq_some_iff.1 hg).1).trans hg
  have hg1' := (hE1.block _ (Array.getElem?_eq_some_iff.1 hg').1).trans hg'
  replace r0 := hE1.cell r0
  replace r1 := hE1.cell r1
  have e1 := hX.trans hE1
  clear hg hg' hE1
  go_wp2_with (refine BigFrame.wpList_want (by rfl) fun K hK => wp_load_row 32 _ rfl w.heap.size rfl 32 cs (0, 0) _ hg1 Tryz.underlying32 rfl hinf (hK _ _ ?_))
  refine (hft.out _ e1).mono ?_
  rintro e W2 ⟨rfl, hE2⟩
  have hg2 := (hE2.block _ (Array.getElem?_eq_some_iff.1 hg1).1).trans hg1
  have hg2' := (hE2.block _ (Array.getElem?_eq_some_iff.1 hg1').1).trans hg1'
  replace r0 := hE2.cell r0
  replace r1 := hE2.cell r1
  have e2 := e1.trans hE2
  clear hg1 hg1' hE2 hft
  go_wp2_with (refine BigFrame.wpList_want (by rfl) fun K hK => wp_load_row 32 _ rfl (w.heap.size + 1) rfl 32 ds (0, 0) _ hg2' Tryz.underlying32 rfl hinf' (hK _ _ ?_))
  refine (hft'.out _ e2).mono ?_
  rintro e W3 ⟨rfl, hE3⟩
  have hg3 := (hE3.block _ (Array.getElem?_eq_some_iff.1 hg2).1).trans hg2
  have hg3' := (hE3.block _ (Array.getElem?_eq_some_iff.1 hg2').1).trans hg2'
  replace r0 := hE3.cell r0
  replace r1 := hE3.cell r1
  have e3 := e2.trans hE3
  clear hg2 hg2' hE3 hft' e1 e2 hX
  go_wp2_with fail
  refine (hkn.out _ e3).mono ?_
  rintro e W9 ⟨rfl, hE9⟩
  go_wp2_with fail
  go_ret
  exact ⟨rfl, Ext.trans e3 hE9⟩
 simp only [decide_eq_true hz'] at hft'
 have Hz := Lib.hid hz
 have Hz' := Lib.hid hz'
 clear hz hz'
 by_cases hka : ka.length ≤ 13
 case neg =>
  have hkI : (13 : Int) < (ka.length : Int) := by omega
  clear hka
  go_enter Tryz.func5, Tryz.ntmps5
  go_wp2_with fail
  refine (hkn.out _ hX).mono ?_
  rintro e W1 ⟨rfl, hE1⟩
  have hg1 := (hE1.block _ (Array.getElem?_eq_some_iff.1 hg).1).trans hg
  have hg1' := (hE1.block _ (Array.getElem?_eq_some_iff.1 hg').1).trans hg'
  replace r0 := hE1.cell r0
  replace r1 := hE1.cell r1
  have e1 := hX.trans hE1
  clear hg hg' hE1
  go_wp2_with (refine BigFrame.wpList_want (by rfl) fun K hK => wp_load_row 32 _ rfl w.heap.size rfl 32 cs (0, 0) _ hg1 Tryz.underlying32 rfl hinf (hK _ _ ?_))
  refine (hft.out _ e1).mono ?_
  rintro e W2 ⟨rfl, hE2⟩
  have hg2 := (hE2.block _ (Array.getElem?_eq_some_iff.1 hg1).1).trans hg1
  have hg2' := (hE2.block _ (Array.getElem?_eq_some_iff.1 hg1').1).trans hg1'
  replace r0 := hE2.cell r0
  replace r1 := hE2.cell r1
  have e2 := e1.trans hE2
  clear hg1 hg1' hE2 hft
  go_wp2_with (refine BigFrame.wpList_want (by rfl) fun K hK => wp_load_row 32 _ rfl (w.heap.size + 1) rfl 32 ds (0, 0) _ hg2' Tryz.underlying32 rfl hinf' (hK _ _ ?_))
  refine (hft'.out _ e2).mono ?_
  rintro e W3 ⟨rfl, hE3⟩
  have hg3 := (hE3.block _ (Array.getElem?_eq_some_iff.1 hg2).1).trans hg2
  have hg3' := (hE3.block _ (Array.getElem?_eq_some_iff.1 hg2').1).trans hg2'
  replace r0 := hE3.cell r0
  replace r1 := hE3.cell r1
  have e3 := e2.trans hE3
  clear hg2 hg2' hE3 hft' e1 e2 hX
  go_wp2_with fail
  refine (hkn.out _ e3).mono ?_
  rintro e W9 ⟨rfl, hE9⟩
  go_wp2_with fail
  go_ret
  exact ⟨rfl, Ext.trans e3 hE9⟩
 by_cases hkb : kb.length ≤ 13
 case neg =>
  have hkI : ¬ (13 : Int) < (ka.length : Int) := by omega
  have hkJ : (13 : Int) < (kb.length : Int) := by omega
  clear hka hkb
  go_enter Tryz.func5, Tryz.ntmps5
  go_wp2_with fail
  refine (hkn.out _ hX).mono ?_
  rintro e W1 ⟨rfl, hE1⟩
  have hg1 := (hE1.block _ (Array.getElem?_eq_some_iff.1 hg).1).trans hg
  have hg1' := (hE1.block _ (Array.getElem?_eq_some_iff.1 hg').1).trans hg'
  replace r0 := hE1.cell r0
  replace r1 := hE1.cell r1
  have e1 := hX.trans hE1
  clear hg hg' hE1
  go_wp2_with (refine BigFrame.wpList_want (by rfl) fun K hK => wp_load_row 32 _ rfl w.heap.size rfl 32 cs (0, 0) _ hg1 Tryz.underlying32 rfl hinf (hK _ _ ?_))
  refine (hft.out _ e1).mono ?_
  rintro e W2 ⟨rfl, hE2⟩
  have hg2 := (hE2.block _ (Array.getElem?_eq_some_iff.1 hg1).1).trans hg1
  have hg2' := (hE2.block _ (Array.getElem?_eq_some_iff.1 hg1').1).trans hg1'
  replace r0 := hE2.cell r0
  replace r1 := hE2.cell r1
  have e2 := e1.trans hE2
  clear hg1 hg1' hE2 hft
  go_wp2_with (refine BigFrame.wpList_want (by rfl) fun K hK => wp_load_row 32 _ rfl (w.heap.size + 1) rfl 32 ds (0, 0) _ hg2' Tryz.underlying32 rfl hinf' (hK _ _ ?_))
  refine (hft'.out _ e2).mono ?_
  rintro e W3 ⟨rfl, hE3⟩
  have hg3 := (hE3.block _ (Array.getElem?_eq_some_iff.1 hg2).1).trans hg2
  have hg3' := (hE3.block _ (Array.getElem?_eq_some_iff.1 hg2').1).trans hg2'
  replace r0 := hE3.cell r0
  replace r1 := hE3.cell r1
  have e3 := e2.trans hE3
  clear hg2 hg2' hE3 hft' e1 e2 hX
  go_wp2_with fail
  refine (hkn.out _ e3).mono ?_
  rintro e W9 ⟨rfl, hE9⟩
  go_wp2_with fail
  go_ret
  exact ⟨rfl, Ext.trans e3 hE9⟩
 have hkI : ¬ (13 : Int) < (ka.length : Int) := by omega
 have hkJ : ¬ (13 : Int) < (kb.length : Int) := by omega
 have Hka := Lib.hid hka
 have Hkb := Lib.hid hkb
 clear hka hkb
 go_enter Tryz.func5, Tryz.ntmps5
 go_wp2_with fail
 refine (hkn.out _ hX).mono ?_
 rintro e W1 ⟨rfl, hE1⟩
 have hg1 := (hE1.block _ (Array.getElem?_eq_some_iff.1 hg).1).trans hg
 have hg1' := (hE1.block _ (Array.getElem?_eq_some_iff.1 hg').1).trans hg'
 replace r0 := hE1.cell r0
 replace r1 := hE1.cell r1
 have e1 := hX.trans hE1
 clear hg hg' hE1
 go_wp2_with (refine BigFrame.wpList_want (by rfl) fun K hK => wp_load_row 32 _ rfl w.heap.size rfl 32 cs (0, 0) _ hg1 Tryz.underlying32 rfl hinf (hK _ _ ?_))
 refine (hft.out _ e1).mono ?_
 rintro e W2 ⟨rfl, hE2⟩
 have hg2 := (hE2.block _ (Array.getElem?_eq_some_iff.1 hg1).1).trans hg1
 have hg2' := (hE2.block _ (Array.getElem?_eq_some_iff.1 hg1').1).trans hg1'
 replace r0 := hE2.cell r0
 replace r1 := hE2.cell r1
 have e2 := e1.trans hE2
 clear hg1 hg1' hE2 hft
 go_wp2_with (refine BigFrame.wpList_want (by rfl) fun K hK => wp_load_row 32 _ rfl (w.heap.size + 1) rfl 32 ds (0, 0) _ hg2' Tryz.underlying32 rfl hinf' (hK _ _ ?_))
 refine (hft'.out _ e2).mono ?_
 rintro e W3 ⟨rfl, hE3⟩
 have hg3 := (hE3.block _ (Array.getElem?_eq_some_iff.1 hg2).1).trans hg2
 have hg3' := (hE3.block _ (Array.getElem?_eq_some_iff.1 hg2').1).trans hg2'
 replace r0 := hE3.cell r0
 replace r1 := hE3.cell r1
 have e3 := e2.trans hE3
 clear hg2 hg2' hE3 hft' e1 e2 hX
 clear hkn
 go_wp2_with fail
 clear hkI hkJ
 refine wp_region_held_tail (S := fun W => Ext W3 W) 6 (by kernel_rfl) (by simp) ?_
 intro inv
 have d9 : Ext W3 W3.drew := (Ext.refl W3).drew
 refine wpAnyLH_inv2 (D := mk2D) (G := mk2G W3.heap.size cs ds b b' A B A' B') (R := mk2R) (fun i j hi hj h => by unfold mk2D at h; split at h <;> split at h <;> omega) (fun i hi => by unfold mk2D; simp; split <;> omega) ?_ (by kernel_rfl) (by kernel_rfl) (by simp) mk2G_ext ?_ ?_ 6 _ _ _ (unl_all 6 8 (by omega)) inv d9 (Frm.refl _ _ _) (fun j _ h => by rw [getD_replicate_false] at h; cases h) (fun i j _ _ _ h => by rw [getD_replicate_false] at h; cases h)
 ·intro i hi o ho e he hb
  rcases (show i = 0 ∨ i = 1 ∨ i = 2 ∨ i = 3 ∨ i = 4 ∨ i = 5 by omega) with rfl | rfl | rfl | rfl | rfl | rfl <;> (obtain rfl := Option.some.inj ho; simp at he <;> (try rcases he with rfl | rfl) <;> (try subst he) <;> simp)
 ·intro i hi o ho a W hS hF hd
  have hBs := hS.size
  rcases (show i = 0 ∨ i = 1 ∨ i = 2 ∨ i = 3 ∨ i = 4 ∨ i = 5 by omega) with rfl | rfl | rfl | rfl | rfl | rfl
  ·obtain rfl := Option.some.inj ho
   refine wpOp_step rfl (fun K hK => ?_)
   have t2 : a.eval (.tmp 3) = .pointer (some ⟨w.heap.size, 0, none⟩) := by rw [ev_tmp, hF.other 3 (fun j _ => by unfold mk2D; split <;> omega)]; rfl
   have hgW := (hS.block _ (Array.getElem?_eq_some_iff.1 hg3).1).trans hg3
   rw [if_pos (by simp [Region.wanted])]
   exact wp_load_row 32 _ rfl w.heap.size t2 32 cs (0, 0) _ hgW Tryz.underlying32 rfl hinf (hK _ _ ⟨hS, Ext.refl W, _, rfl, rfl, fun j u _ hj _ => ⟨fun h => by rcases h with h | h <;> omega, fun h => by rcases h with h | h <;> omega⟩⟩)
  ·obtain rfl := Option.some.inj ho
   refine wpOp_step rfl (fun K hK => ?_)
   have h0 := hd ⟨0, .data⟩ (by simp) rfl
   have t43 : a.tmps[43]?.getD undef = .agg cs := (ev_tmp a 43).symm.trans h0
   clear hd ho h0
   go_simp
   refine (hmk.out _ (e3.trans hS) Hz.out).mono ?_
   rintro e W5 ⟨t, C, M, rfl, hT, hE5⟩
   refine hK _ _ ⟨hS.trans hE5, hE5, _, rfl, ⟨C, M, hT⟩, fun j u _ hj _ => ⟨fun h => by rcases h with h | h <;> omega, fun h => by rcases h with h | h <;> omega⟩⟩
  ·obtain rfl := Option.some.inj ho
   refine wpOp_step rfl (fun K hK => ?_)
   have t3 : a.eval (.tmp 4) = .pointer (some ⟨w.heap.size + 1, 0, none⟩) := by rw [ev_tmp, hF.other 4 (fun j _ => by unfold mk2D; split <;> omega)]; rfl
   have hgW := (hS.block _ (Array.getElem?_eq_some_iff.1 hg3').1).trans hg3'
   rw [if_pos (by simp [Region.wanted])]
   exact wp_load_row 32 _ rfl (w.heap.size + 1) t3 32 ds (0, 0) _ hgW Tryz.underlying32 rfl hinf' (hK _ _ ⟨hS, Ext.refl W, _, rfl, rfl, fun j u _ hj _ => ⟨fun h => by rcases h with h | h <;> omega, fun h => by rcases h with h | h <;> omega⟩⟩)
  ·obtain rfl := Option.some.inj ho
   refine wpOp_step rfl (fun K hK => ?_)
   have h0 := hd ⟨2, .data⟩ (by simp) rfl
   have t45 : a.tmps[45]?.getD undef = .agg ds := (ev_tmp a 45).symm.trans h0
   clear hd ho h0
   go_simp
   refine (hmk'.out _ (e3.trans hS) Hz'.out).mono ?_
   rintro e W5 ⟨t, C, M, rfl, hT, hE5⟩
   refine hK _ _ ⟨hS.trans hE5, hE5, _, rfl, ⟨C, M, hT⟩, fun j u _ hj _ => ⟨fun h => by rcases h with h | h <;> omega, fun h => by rcases h with h | h <;> omega⟩⟩
  ·obtain rfl := Option.some.inj ho
   refine wpOp_step rfl (fun K hK => ?_)
   clear hd ho
   go_simp
   refine hK _ _ ⟨hS.alloc _, (Ext.refl W).alloc _, _, rfl, ⟨W.heap.size, rfl, hBs, (own4 W _ _ _ _ _).mono (by omega)⟩, ?_⟩
   intro j u hj6 hj hu
   have key : j = 5 → Value.pointer (some ⟨W.heap.size, 0, none⟩) ≠ u := fun e h => by
    subst e
    obtain ⟨bb, e1, _, h3⟩ := hu
    rw [e1] at h
    have h4 := h3.lt.2
    have h5 : W.heap.size = bb := by
     injection h with h
     injection h with h
     injection h
    omega
   exact ⟨fun h => key (by omega), fun h h2 => key (by omega) h2.symm⟩
  ·obtain rfl := Option.some.inj ho
   refine wpOp_step rfl (fun K hK => ?_)
   clear hd ho
   go_simp
   refine hK _ _ ⟨hS.alloc _, (Ext.refl W).alloc _, _, rfl, ⟨W.heap.size, rfl, hBs, (own4 W _ _ _ _ _).mono (by omega)⟩, ?_⟩
   intro j u hj6 hj hu
   have key : j = 4 → Value.pointer (some ⟨W.heap.size, 0, none⟩) ≠ u := fun e h => by
    subst e
    obtain ⟨bb, e1, _, h3⟩ := hu
    rw [e1] at h
    have h4 := h3.lt.2
    have h5 : W.heap.size = bb := by
     injection h with h
     injection h with h
     injection h
    omega
   exact ⟨fun h => key (by omega), fun h h2 => key (by omega) h2.symm⟩
 intro listed a W inv hall hS hF hGa hRa
 obtain ⟨C, M, hT⟩ := hGa 1 (by omega)
 obtain ⟨C', M', hT'⟩ := hGa 3 (by omega)
 obtain ⟨b5, h5, h5b, hO5⟩ := hGa 4 (by omega)
 obtain ⟨b6, h6, h6b, hO6⟩ := hGa 5 (by omega)
 have hne : b5 ≠ b6 := fun e => hRa 4 5 (by omega) (by omega) (by omega) (.inl ⟨rfl, rfl⟩) (by rw [h5, h6, e])
 obtain ⟨sp, cp, sc, lc, cc, sm, lm, cm, sg, lg, cg, hv, hTv⟩ := hT
 obtain ⟨sp', cp', sc', lc', cc', sm', lm', cm', sg', lg', cg', hv', hTv'⟩ := hT'
 refine ⟨by rw [listed_eq inv hall]; kernel_rfl, ?_⟩
 have haE := hF.eq (fun i j hi hj h => by unfold mk2D at h; split at h <;> split at h <;> omega) (fun i hi => by unfold mk2D; simp; split <;> omega)
 have E0 : a.eval (.tmp 43) = .agg cs := hGa 0 (by omega)
 have E1 : a.eval (.tmp 44) = tuS (prL b) sp cp sc lc cc sm lm cm sg lg cg := hv
 have E2 : a.eval (.tmp 45) = .agg ds := hGa 2 (by omega)
 have E3 : a.eval (.tmp 46) = tuS (prL b') sp' cp' sc' lc' cc' sm' lm' cm' sg' lg' cg' := hv'
 have E4 : a.eval (.tmp 7) = .pointer (some ⟨b5, 0, none⟩) := h5
 have E5 : a.eval (.tmp 8) = .pointer (some ⟨b6, 0, none⟩) := h6
 rw [haE]
 clear haE
 simp only [putAll, E0, E1, E2, E3, E4, E5, show mk2D 0 = 43 from rfl, show mk2D 1 = 44 from rfl, show mk2D 2 = 45 from rfl, show mk2D 3 = 46 from rfl, show mk2D 4 = 7 from rfl, show mk2D 5 = 8 from rfl, List.drop_succ_cons, List.drop_zero]
 go_simp
 obtain ⟨Hr5, He5, Hg5⟩ := set4 hS h5b hO5 (.slice sp (prL b).length cp) (.slice sc lc cc) (.slice sm lm cm) (.slice sg lg cg)
 have hO6' := ownV_off hO6 Hg5 (Ne.symm hne)
 have hT1' := tuV_keep hTv hO5 Hg5
 have hT2' := tuV_keep hTv' hO5 Hg5
 have m0 := hO5.cell (j := 0) (by simp)
 have m1 := hO5.cell (j := 1) (by simp)
 have m2 := hO5.cell (j := 2) (by simp)
 have m3 := hO5.cell (j := 3) (by simp)
 have f0 := hO5.frozen 0
 have f1 := hO5.frozen 1
 have f2 := hO5.frozen 2
 have f3 := hO5.frozen 3
 obtain ⟨Hr6, He6, Hg6⟩ := set4 He5 h6b hO6' (.slice sp' (prL b').length cp') (.slice sc' lc' cc') (.slice sm' lm' cm') (.slice sg' lg' cg')
 have hT1F := tuV_keep hT1' hO6' Hg6
 have hT2F := tuV_keep hT2' hO6' Hg6
 have HrA := ownV_off Hr5 Hg6 hne
 have n0 := hO6'.cell (j := 0) (by simp)
 have n1 := hO6'.cell (j := 1) (by simp)
 have n2 := hO6'.cell (j := 2) (by simp)
 have n3 := hO6'.cell (j := 3) (by simp)
 have k0 := hO6'.frozen 0
 have k1 := hO6'.frozen 1
 have k2 := hO6'.frozen 2
 have k3 := hO6'.frozen 3
 simp only [List.getElem_cons_zero, List.getElem_cons_succ] at m0 m1 m2 m3 n0 n1 n2 n3
 have HF := Lib.hid (And.intro hT1F (And.intro hT2F (And.intro HrA (And.intro Hr6 He6))))
 clear hGa hRa E0 E1 E2 E3 E4 E5 h5 h6 hv hv' hTv hTv' hF hall inv Hr5 He5 Hg5 hO6' hT1' hT2' Hr6 He6 Hg6 hT1F hT2F HrA hO5 hO6 d9 hS
 go_upto_region 4 with fail
 obtain ⟨hT, hT', hrA, hrB, heF⟩ := HF.out
 clear HF m0 m1 m2 m3 n0 n1 n2 n3 f0 f1 f2 f3 k0 k1 k2 k3 hmk hmk' hg3 hg3' hinf hinf' hne h5b h6b
 generalize ((((((((W.setCell ⟨b5, 0, none⟩ (.slice sp (prL b).length cp)).setCell ⟨b5, 1, none⟩ (.slice sc lc cc)).setCell ⟨b5, 2, none⟩ (.slice sm lm cm)).setCell ⟨b5, 3, none⟩ (.slice sg lg cg)).setCell ⟨b6, 0, none⟩ (.slice sp' (prL b').length cp')).setCell ⟨b6, 1, none⟩ (.slice sc' lc' cc')).setCell ⟨b6, 2, none⟩ (.slice sm' lm' cm')).setCell ⟨b6, 3, none⟩ (.slice sg' lg' cg')) = X at *
 have eX := e3.trans heF
 have x0 := hrA.cell (j := 0) (by simp)
 have x1 := hrA.cell (j := 1) (by simp)
 have x2 := hrA.cell (j := 2) (by simp)
 have x3 := hrA.cell (j := 3) (by simp)
 have z0 := hrB.cell (j := 0) (by simp)
 have z1 := hrB.cell (j := 1) (by simp)
 have z2 := hrB.cell (j := 2) (by simp)
 have z3 := hrB.cell (j := 3) (by simp)
 simp only [List.getElem_cons_zero, List.getElem_cons_succ] at x0 x1 x2 x3 z0 z1 z2 z3
 replace r0 := heF.cell r0
 replace r1 := heF.cell r1
 have HT := Lib.hid hT
 have HT' := Lib.hid hT'
 clear hT hT' hrA hrB heF e3
 generalize w.heap.size + 1 + 1 = bk at *
 have hln := HT.out.gn.len
 have hln' := HT'.out.gn.len
 have hok := Lib.hid (fun (k : Rat) (h1 : nd k.num ≤ 13) (h2 : nd k.den ≤ 13) => str_ok (A := A) (B := B) (np := (prL b).length) (n := M.length) h1 h2)
 have hok2 := Lib.hid (fun (hp : prL b' = prL b) (k : Rat) (h1 : nd k.num ≤ 13) (h2 : nd k.den ≤ 13) => show ∀ l ∈ bldG (mkG A B (prL b).length M.length) (mkG A' B' (prL b').length M'.length) k (prL b).length, szE l = 0 by rw [hp]; exact bld_ok h1 h2)
 generalize mkG A B (prL b).length M.length = G at *
 generalize mkG A' B' (prL b').length M'.length = G' at *
 generalize prL b = P at *
 generalize prL b' = P' at *
 subst hln
 subst hln'
 have Hbl := Lib.hid (tuBlend_any (a := ka) (b := kb) HT.out HT'.out (by have := Hka.out; omega) (by have := Hkb.out; omega) (HL.out.ext eX))
 have Hst := Lib.hid (fun W (hW : Ext X W) => tuStretch_any (a := ka) (b := kb) (HT.out.ext hW) (by have := Hka.out; omega) (by have := Hkb.out; omega) (HL.out.ext (eX.trans hW)))
 have Hfc := Lib.hid (fun W (hW : Ext X W) => fcheck_all (a := ka) (b := kb) (by have := Hka.out; omega) (by have := Hkb.out; omega) (HL.out.ext (eX.trans hW)))
 have Hs18 := Lib.hid (fun W (hW : Ext X W) => Same18_any (HT.out.tm.ext hW) (HT'.out.tm.ext hW))
 have Hnd := Lib.hid (fun (k : Rat) (h1 : ka = Lib.itoa k.num) (h2 : kb = Lib.itoa k.den) => show nd k.num ≤ 13 ∧ nd k.den ≤ 13 from ⟨nd13_of h1 Hka.out, nd13_of h2 Hkb.out⟩)
 go_wp2_with fail
 refine Hbl.out.mono ?_
 rintro e Y (⟨hne, rfl, hE1⟩ | ⟨he, hf, rfl, hE1⟩ | ⟨he, hf, k, hk1, hk2, hmd⟩)
 ·replace hne : ¬ (P = P' ∧ C = C' ∧ M = M') := hne
  replace x0 := hE1.cell x0
  replace x1 := hE1.cell x1
  replace x2 := hE1.cell x2
  replace x3 := hE1.cell x3
  replace z0 := hE1.cell z0
  replace z1 := hE1.cell z1
  replace z2 := hE1.cell z2
  replace z3 := hE1.cell z3
  replace r0 := hE1.cell r0
  replace r1 := hE1.cell r1
  rw [decide_eq_false hne] at Hs18
  clear hok2 hne Hbl
  have eAp := (Ext.refl Y).alloc (.cells #[.slice none 0 0, .slice none 0 0, .slice none 0 0, .slice none 0 0] 44)
  have yx0 := eAp.cell x0
  have yx1 := eAp.cell x1
  have yx2 := eAp.cell x2
  have yx3 := eAp.cell x3
  have yz0 := eAp.cell z0
  have yz1 := eAp.cell z1
  have yz2 := eAp.cell z2
  have yz3 := eAp.cell z3
  have yr0 := eAp.cell r0
  have yr1 := eAp.cell r1
  have p0 : (Y.alloc (.cells #[.slice none 0 0, .slice none 0 0, .slice none 0 0, .slice none 0 0] 44)).cell? ⟨Y.heap.size, 0, none⟩ = some (.slice none 0 0) := by go_simp
  have p1 : (Y.alloc (.cells #[.slice none 0 0, .slice none 0 0, .slice none 0 0, .slice none 0 0] 44)).cell? ⟨Y.heap.size, 1, none⟩ = some (.slice none 0 0) := by go_simp
  have p2 : (Y.alloc (.cells #[.slice none 0 0, .slice none 0 0, .slice none 0 0, .slice none 0 0] 44)).cell? ⟨Y.heap.size, 2, none⟩ = some (.slice none 0 0) := by go_simp
  have p3 : (Y.alloc (.cells #[.slice none 0 0, .slice none 0 0, .slice none 0 0, .slice none 0 0] 44)).cell? ⟨Y.heap.size, 3, none⟩ = some (.slice none 0 0) := by go_simp
  have ep := hE1.trans eAp
  go_wp2_with fail
  clear x0 x1 x2 x3 z0 z1 z2 z3 r0 r1 eAp
  have x0 := yx0
  clear yx0
  have x1 := yx1
  clear yx1
  have x2 := yx2
  clear yx2
  have x3 := yx3
  clear yx3
  have z0 := yz0
  clear yz0
  have z1 := yz1
  clear yz1
  have z2 := yz2
  clear yz2
  have z3 := yz3
  clear yz3
  have r0 := yr0
  clear yr0
  have r1 := yr1
  clear yr1
  generalize Y.alloc (.cells #[.slice none 0 0, .slice none 0 0, .slice none 0 0, .slice none 0 0] 44) = Xp at *
  generalize Y.heap.size = bp at *
  by_cases hf : frE ka kb = 0
  ·rw [hf] at Hfc
   refine (Hst.out _ ep).mono ?_
   rintro e W6 (⟨q, _⟩ | ⟨k, hk1, hk2, _, hmd⟩)
   ·exact absurd hf q
   obtain ⟨hn1, hn2⟩ := Hnd.out k hk1 hk2
   obtain ⟨⟨t, rfl, hTR⟩, hE6⟩ := md_yes hmd (hok.out k hn1 hn2)
   obtain ⟨tsp, tcp, tsc, tlc, tcc, tsm, tlm, tcm, tsg, tlg, tcg, rfl, hTV⟩ := hTR
   have htl := hTV.gn.len
   rw [strG_length] at htl
   subst htl
   have HK := Lib.hid (And.intro (And.intro hk1 hk2) (And.intro hn1 hn2))
   have e6 := ep.trans hE6
   have HTy := Lib.hid hTV
   replace x0 := hE6.cell x0
   replace x1 := hE6.cell x1
   replace x2 := hE6.cell x2
   replace x3 := hE6.cell x3
   replace z0 := hE6.cell z0
   replace z1 := hE6.cell z1
   replace z2 := hE6.cell z2
   replace z3 := hE6.cell z3
   replace r0 := hE6.cell r0
   replace r1 := hE6.cell r1
   replace p0 := hE6.cell p0
   replace p1 := hE6.cell p1
   replace p2 := hE6.cell p2
   replace p3 := hE6.cell p3
   clear hmd hTV hk1 hk2 hn1 hn2 hE6 Hst hok
   have eAq := (Ext.refl W6).alloc (.cells #[.slice tsp P.length tcp, .slice tsc tlc tcc, .slice tsm tlm tcm, .slice tsg G.length tcg] 44)
   have yx0 := eAq.cell x0
   have yx1 := eAq.cell x1
   have yx2 := eAq.cell x2
   have yx3 := eAq.cell x3
   have yz0 := eAq.cell z0
   have yz1 := eAq.cell z1
   have yz2 := eAq.cell z2
   have yz3 := eAq.cell z3
   have yr0 := eAq.cell r0
   have yr1 := eAq.cell r1
   have yp0 := eAq.cell p0
   have yp1 := eAq.cell p1
   have yp2 := eAq.cell p2
   have yp3 := eAq.cell p3
   have q0 : (W6.alloc (.cells #[.slice tsp P.length tcp, .slice tsc tlc tcc, .slice tsm tlm tcm, .slice tsg G.length tcg] 44)).cell? ⟨W6.heap.size, 0, none⟩ = some (.slice tsp P.length tcp) := by go_simp
   have q1 : (W6.alloc (.cells #[.slice tsp P.length tcp, .slice tsc tlc tcc, .slice tsm tlm tcm, .slice tsg G.length tcg] 44)).cell? ⟨W6.heap.size, 1, none⟩ = some (.slice tsc tlc tcc) := by go_simp
   have q2 : (W6.alloc (.cells #[.slice tsp P.length tcp, .slice tsc tlc tcc, .slice tsm tlm tcm, .slice tsg G.length tcg] 44)).cell? ⟨W6.heap.size, 2, none⟩ = some (.slice tsm tlm tcm) := by go_simp
   have q3 : (W6.alloc (.cells #[.slice tsp P.length tcp, .slice tsc tlc tcc, .slice tsm tlm tcm, .slice tsg G.length tcg] 44)).cell? ⟨W6.heap.size, 3, none⟩ = some (.slice tsg G.length tcg) := by go_simp
   have eq := e6.trans eAq
   replace HTy := Lib.hid (HTy.out.ext eAq)
   go_wp2_with fail
   clear x0 x1 x2 x3 z0 z1 z2 z3 r0 r1 p0 p1 p2 p3 eAq
   have x0 := yx0
   clear yx0
   have x1 := yx1
   clear yx1
   have x2 := yx2
   clear yx2
   have x3 := yx3
   clear yx3
   have z0 := yz0
   clear yz0
   have z1 := yz1
   clear yz1
   have z2 := yz2
   clear yz2
   have z3 := yz3
   clear yz3
   have r0 := yr0
   clear yr0
   have r1 := yr1
   clear yr1
   have p0 := yp0
   clear yp0
   have p1 := yp1
   clear yp1
   have p2 := yp2
   clear yp2
   have p3 := yp3
   clear yp3
   generalize W6.alloc (.cells #[.slice tsp P.length tcp, .slice tsc tlc tcc, .slice tsm tlm tcm, .slice tsg G.length tcg] 44) = Xq at *
   generalize W6.heap.size = bq at *
   refine (Hfc.out _ eq).mono ?_
   rintro e W7 ⟨rfl, hE7⟩
   have e7 := eq.trans hE7
   replace x0 := hE7.cell x0
   replace x1 := hE7.cell x1
   replace x2 := hE7.cell x2
   replace x3 := hE7.cell x3
   replace z0 := hE7.cell z0
   replace z1 := hE7.cell z1
   replace z2 := hE7.cell z2
   replace z3 := hE7.cell z3
   replace r0 := hE7.cell r0
   replace r1 := hE7.cell r1
   replace p0 := hE7.cell p0
   replace p1 := hE7.cell p1
   replace p2 := hE7.cell p2
   replace p3 := hE7.cell p3
   replace q0 := hE7.cell q0
   replace q1 := hE7.cell q1
   replace q2 := hE7.cell q2
   replace q3 := hE7.cell q3
   replace HTy := Lib.hid (HTy.out.ext hE7)
   clear hE7 Hfc
   go_wp2_with fail
   refine (Hs18.out _ e7).mono ?_
   rintro e W8 ⟨rfl, hE8⟩
   have e8 := e7.trans hE8
   replace x0 := hE8.cell x0
   replace x1 := hE8.cell x1
   replace x2 := hE8.cell x2
   replace x3 := hE8.cell x3
   replace z0 := hE8.cell z0
   replace z1 := hE8.cell z1
   replace z2 := hE8.cell z2
   replace z3 := hE8.cell z3
   replace r0 := hE8.cell r0
   replace r1 := hE8.cell r1
   replace p0 := hE8.cell p0
   replace p1 := hE8.cell p1
   replace p2 := hE8.cell p2
   replace p3 := hE8.cell p3
   replace q0 := hE8.cell q0
   replace q1 := hE8.cell q1
   replace q2 := hE8.cell q2
   replace q3 := hE8.cell q3
   replace HTy := Lib.hid (HTy.out.ext hE8)
   clear hE8 Hs18 e7
   go_wp2_with fail
   refine blankZ_any.mono ?_
   rintro e W9 ⟨rfl, hE9⟩
   have e9 := e8.trans hE9
   replace x0 := hE9.cell x0
   replace x1 := hE9.cell x1
   replace x2 := hE9.cell x2
   replace x3 := hE9.cell x3
   replace z0 := hE9.cell z0
   replace z1 := hE9.cell z1
   replace z2 := hE9.cell z2
   replace z3 := hE9.cell z3
   replace r0 := hE9.cell r0
   replace r1 := hE9.cell r1
   replace p0 := hE9.cell p0
   replace p1 := hE9.cell p1
   replace p2 := hE9.cell p2
   replace p3 := hE9.cell p3
   replace q0 := hE9.cell q0
   replace q1 := hE9.cell q1
   replace q2 := hE9.cell q2
   replace q3 := hE9.cell q3
   replace HTy := Lib.hid (HTy.out.ext hE9)
   have hs2 := Lib.hid (Same18_any HTy.out.tm (HT.out.tm.ext e9))
   rw [decide_eq_true (show P = P ∧ C = C ∧ M = M from ⟨rfl, rfl, rfl⟩)] at hs2
   go_wp2_with fail
   refine hs2.out.mono ?_
   rintro e V0 ⟨rfl, hF0⟩
   have f0 := e9.trans hF0
   replace x0 := hF0.cell x0
   replace x1 := hF0.cell x1
   replace x2 := hF0.cell x2
   replace x3 := hF0.cell x3
   replace z0 := hF0.cell z0
   replace z1 := hF0.cell z1
   replace z2 := hF0.cell z2
   replace z3 := hF0.cell z3
   replace r0 := hF0.cell r0
   replace r1 := hF0.cell r1
   replace p0 := hF0.cell p0
   replace p1 := hF0.cell p1
   replace p2 := hF0.cell p2
   replace p3 := hF0.cell p3
   replace q0 := hF0.cell q0
   replace q1 := hF0.cell q1
   replace q2 := hF0.cell q2
   replace q3 := hF0.cell q3
   replace HTy := Lib.hid (HTy.out.ext hF0)
   clear hs2 hF0
   go_wp2_with fail
   have hg4 : G.length ≤ 4 := by have := HT.out.tm.m4; have := HT.out.ln; omega
   have hp4 := HT.out.tm.ok.p4
   have Hcl := Lib.hid HT.out.cl
   have Hsh := Lib.hid HT.out.sh
   obtain ⟨sg1, ga, oa, cga, va, ev, hca, hvA, hSa, hrA⟩ := HT.out.gn
   injection ev with ev1 ev2 ev3
   subst ev1 ev3
   obtain ⟨sg2, gb, ob, cgb, vb, ew', hcb, hvB, hSb, hrB⟩ := HTy.out.gn
   injection ew' with ew1 ew2 ew3
   subst ew1 ew3
   rw [strG_length] at hcb hvB
   have HA := Lib.hid hSa
   have HvA := Lib.hid hvA
   have HrA := Lib.hid hrA
   have HB := Lib.hid hSb
   have HvB := Lib.hid hvB
   have HrB := Lib.hid hrB
   have Hkq := Lib.hid (show NdQ 40 k from ⟨by have := HK.out.2.1; omega, by have := HK.out.2.2; omega⟩)
   have hr0 := r0
   have hr1 := r1
   rw [show S ka = I k.num by rw [HK.out.1.1]] at r0
   rw [show S kb = I k.den by rw [HK.out.1.2]] at r1
   clear hSa hvA hrA hSb hvB hrB hca hcb ev2 ew2 hr0 hr1
   go_loopw [17] (fun iv wr => ∃ i : Nat, i ≤ G.length ∧ iv = .int .i64 i ∧ Ext V0 wr) (fun iv _ => G.length - (intOf iv).toNat)
   case atStart => exact ⟨0, by omega, by go_num, Ext.refl _⟩
   case round =>
    obtain ⟨i, hi, rfl, hE⟩ := hrel
    generalize wr = V at *
    have eV := f0.trans hE
    have v3 := hE.cell x3
    by_cases hlt : i < G.length
    ·have hii : (i : Int) < (G.length : Int) := by omega
     have hiv : i < va.length := by rw [HvA.out]; exact hlt
     have hiw : i < vb.length := by rw [HvB.out]; exact hlt
     obtain rfl := HA.out.addr (by omega)
     obtain rfl := HB.out.addr (by omega)
     have c0 := eV.cell (HA.out.cell i _ (List.getElem?_eq_getElem hiv))
     have c1 := hE.cell (HB.out.cell i _ (List.getElem?_eq_getElem hiw))
     have hsA := (HrA.out i hlt hiv).ext eV
     have hsB := (HrB.out i (by simpa using hlt) hiw).ext hE
     have hgB : (strG G k P.length)[i]'(by simpa using hlt) = cmbQ [G[i]] [k] P.length := by simp [strG]
     rw [hgB] at hsB
     obtain ⟨xa, xc, ex⟩ := szR_slc hsA
     rw [ex, Hcl.out _ (List.getElem_mem hlt)] at c0 hsA
     obtain ⟨ya, yc, ey⟩ := szR_slc hsB
     rw [ey, cmbQ_length] at c1 hsB
     have Hsl := Lib.hid (Hsh.out _ (List.getElem_mem hlt))
     have Hcll := Lib.hid (Hcl.out _ (List.getElem_mem hlt))
     obtain ⟨l, hl⟩ : ∃ l, l = G[i] := ⟨_, rfl⟩
     rw [← hl] at hsA hsB Hsl Hcll
     have HsA := Lib.hid hsA
     have HsB := Lib.hid hsB
     have va0 := hE.cell r0
     have vb0 := hE.cell r1
     have vq3 := hE.cell q3
     have hi64 : i < 9223372036854775806 := by omega
     have Hcm := Lib.hid (fun W v fv (hW : Ext V W) (hv : GnR W v [l]) (hfv : SzR W fv [k]) => combine24_any (np := P.length) hv hfv (fun s hs => by
      simp only [List.mem_cons, List.not_mem_nil, or_false] at hs
      subst hs; exact Hcll.out) (by simp) (fun s hs => by
      simp only [List.mem_cons, List.not_mem_nil, or_false] at hs
      subst hs; exact shQ_nd Hsl.out (by omega)) (fun r hr => by
      simp only [List.mem_cons, List.not_mem_nil, or_false] at hr
      subst hr; exact Hkq.out.mono (by omega)) (by omega) (by simp) (HL.out.ext ((eX.trans eV).trans hW)))
     clear hsA hsB ex ey hl hiv hiw hlt hgB
     go_wp2_with fail
     have d0 : Ext V V.drew := (Ext.refl V).drew
     refine wp_region_held_tail (S := fun W => Ext V W) 16 (by kernel_rfl) (by simp) ?_
     intro inv
     generalize V.drew = V1 at *
     refine wpAnyLH_take (i := 0) (v := .pointer (some ⟨bq, 3, none⟩)) rfl (by kernel_rfl) (fun _ _ _ h => h) (.inl ⟨by rfl, fun W hW => by go_simp⟩) d0 inv ?_
     intro inv
     go_simp
     refine wpAnyLH_take (i := 1) (v := .slice (some ⟨gb, ob, none⟩) G.length tcg) rfl (by kernel_rfl) (fun _ _ _ h => h) (.inl ⟨by rfl, fun W hW => by have q7 := hW.cell vq3; go_simp⟩) d0 inv ?_
     intro inv
     go_simp
     refine wpAnyLH_take (i := 2) (v := .int .i64 i) rfl (by kernel_rfl) (fun _ _ _ h => h) (.inl ⟨by rfl, fun W hW => by go_simp⟩) d0 inv ?_
     intro inv
     go_simp
     refine wpAnyLH_take (i := 3) (v := .pointer (some ⟨gb, ob + i, none⟩)) rfl (by kernel_rfl) (fun _ _ _ h => h) (.inl ⟨by rfl, fun W hW => by go_simp⟩) d0 inv ?_
     intro inv
     go_simp
     refine wpAnyLH_take (i := 4) (v := .slice ya P.length yc) rfl (by kernel_rfl) (fun _ _ _ h => h) (.inl ⟨by rfl, fun W hW => by have q7 := hW.cell c1; go_simp⟩) d0 inv ?_
     intro inv
     go_simp
     refine wpAnyLH_take (i := 5) (v := .pointer (some ⟨b5, 3, none⟩)) rfl (by kernel_rfl) (fun _ _ _ h => h) (.inl ⟨by rfl, fun W hW => by go_simp⟩) d0 inv ?_
     intro inv
     go_simp
     refine wpAnyLH_take (i := 6) (v := .slice (some ⟨ga, oa, none⟩) G.length cg) rfl (by kernel_rfl) (fun _ _ _ h => h) (.inl ⟨by rfl, fun W hW => by have q7 := hW.cell v3; go_simp⟩) d0 inv ?_
     intro inv
     go_simp
     refine wpAnyLH_take (i := 7) (v := .int .i64 i) rfl (by kernel_rfl) (fun _ _ _ h => h) (.inl ⟨by rfl, fun W hW => by go_simp⟩) d0 inv ?_
     intro inv
     go_simp
     refine wpAnyLH_take (i := 8) (v := .pointer (some ⟨ga, oa + i, none⟩)) rfl (by kernel_rfl) (fun _ _ _ h => h) (.inl ⟨by rfl, fun W hW => by go_simp⟩) d0 inv ?_
     intro inv
     go_simp
     refine wpAnyLH_take (i := 9) (v := .slice xa P.length xc) rfl (by kernel_rfl) (fun _ _ _ h => h) (.inl ⟨by rfl, fun W hW => by have q7 := hW.cell c0; go_simp⟩) d0 inv ?_
     intro inv
     go_simp
     refine wpAnyLH_take (i := 11) (v := .agg #[I k.num, I (k.den : Int)]) rfl (by kernel_rfl) (fun _ _ _ h => h) (.inl ⟨by rfl, fun W hW => by have q7 := hW.cell va0; have q8 := hW.cell vb0; go_simp⟩) d0 inv ?_
     intro inv
     go_simp
     refine wpAnyLH_take (i := 13) (v := .int .i64 P.length) rfl (by kernel_rfl) (fun _ _ _ h => h) (.inl ⟨by rfl, fun W hW => by go_simp⟩) d0 inv ?_
     intro inv
     go_simp
     refine wpAnyLH_twoII (i := 10) (j := 12) rfl rfl (by kernel_rfl) inv (fun inv K0 hK0 => ?_) (fun inv K0 hK0 => ?_)
     ·go_simp
      refine hK0 _ _ (d0.alloc (.cells #[.slice xa P.length xc] 52)) ?_
      clear hK0
      refine wpAnyLH_oneI (i := 12) rfl (by kernel_rfl) inv (fun inv K0 hK0 => ?_)
      go_simp
      have d1 : Ext V ((V1.alloc (.cells #[.slice xa P.length xc] 52)).alloc (.cells #[I k.num, I (k.den : Int)] 63)) := (d0.alloc (.cells #[.slice xa P.length xc] 52)).alloc (.cells #[I k.num, I (k.den : Int)] 63)
      have HGn := Lib.hid (show GnR ((V1.alloc (.cells #[.slice xa P.length xc] 52)).alloc (.cells #[I k.num, I (k.den : Int)] 63)) (.slice (some ⟨V1.heap.size, 0, none⟩) 1 1) [l] from gn1N (by go_simp) (HsA.out.ext d1))
      have HSz := Lib.hid (show SzR ((V1.alloc (.cells #[.slice xa P.length xc] 52)).alloc (.cells #[I k.num, I (k.den : Int)] 63)) (.slice (some ⟨V1.heap.size + 1, 0, none⟩) 1 1) [k] from sz1N (by go_simp) (by go_simp))
      refine hK0 _ _ d1 ?_
      clear hK0
      generalize hW2 : World.alloc (World.alloc V1 _) _ = W2 at *
      clear hW2
      refine wpAnyLH_oneI (i := 14) rfl (by kernel_rfl) inv (fun inv K0 hK0 => ?_)
      go_simp
      refine (Hcm.out _ _ _ d1 HGn.out HSz.out).mono ?_
      rintro e V3 ⟨⟨gq, rfl, hO⟩, hG3⟩
      have d2 := d1.trans hG3
      have Hq := Lib.hid (Same24_any (HsB.out.ext d2) (by have := hO.val.read; rwa [cmbQ_length] at this) (by rw [cmbQ_length]; omega))
      rw [decide_eq_true rfl] at Hq
      refine hK0 _ _ d2 ?_
      clear hK0 hO
      refine wpAnyLH_oneI (i := 15) rfl (by kernel_rfl) inv (fun inv K0 hK0 => ?_)
      go_simp
      refine Hq.out.mono ?_
      rintro e V4 ⟨rfl, hG4⟩
      have d3 := d2.trans hG4
      refine hK0 _ _ d3 ?_
      clear hK0
      refine wpAnyLH_end (by kernel_rfl) ?_
      have d9 := hE.trans d3
      clear inv d0 d1 d2 d3 hG3 hG4 Hcm Hq HGn HSz HsA HsB
      go_wp2_with fail
      go_roundw
      case rel => exact ⟨i + 1, by omega, by go_num, d9⟩
      case measure => simp [intOf] <;> omega
     ·go_simp
      refine hK0 _ _ (d0.alloc (.cells #[I k.num, I (k.den : Int)] 63)) ?_
      clear hK0
      refine wpAnyLH_oneI (i := 10) rfl (by kernel_rfl) inv (fun inv K0 hK0 => ?_)
      go_simp
      have d1 : Ext V ((V1.alloc (.cells #[I k.num, I (k.den : Int)] 63)).alloc (.cells #[.slice xa P.length xc] 52)) := (d0.alloc (.cells #[I k.num, I (k.den : Int)] 63)).alloc (.cells #[.slice xa P.length xc] 52)
      have HGn := Lib.hid (show GnR ((V1.alloc (.cells #[I k.num, I (k.den : Int)] 63)).alloc (.cells #[.slice xa P.length xc] 52)) (.slice (some ⟨V1.heap.size + 1, 0, none⟩) 1 1) [l] from gn1N (by go_simp) (HsA.out.ext d1))
      have HSz := Lib.hid (show SzR ((V1.alloc (.cells #[I k.num, I (k.den : Int)] 63)).alloc (.cells #[.slice xa P.length xc] 52)) (.slice (some ⟨V1.heap.size, 0, none⟩) 1 1) [k] from sz1N (by go_simp) (by go_simp))
      refine hK0 _ _ d1 ?_
      clear hK0
      generalize hW2 : World.alloc (World.alloc V1 _) _ = W2 at *
      clear hW2
      refine wpAnyLH_oneI (i := 14) rfl (by kernel_rfl) inv (fun inv K0 hK0 => ?_)
      go_simp
      refine (Hcm.out _ _ _ d1 HGn.out HSz.out).mono ?_
      rintro e V3 ⟨⟨gq, rfl, hO⟩, hG3⟩
      have d2 := d1.trans hG3
      have Hq := Lib.hid (Same24_any (HsB.out.ext d2) (by have := hO.val.read; rwa [cmbQ_length] at this) (by rw [cmbQ_length]; omega))
      rw [decide_eq_true rfl] at Hq
      refine hK0 _ _ d2 ?_
      clear hK0 hO
      refine wpAnyLH_oneI (i := 15) rfl (by kernel_rfl) inv (fun inv K0 hK0 => ?_)
      go_simp
      refine Hq.out.mono ?_
      rintro e V4 ⟨rfl, hG4⟩
      have d3 := d2.trans hG4
      refine hK0 _ _ d3 ?_
      clear hK0
      refine wpAnyLH_end (by kernel_rfl) ?_
      have d9 := hE.trans d3
      clear inv d0 d1 d2 d3 hG3 hG4 Hcm Hq HGn HSz HsA HsB
      go_wp2_with fail
      go_roundw
      case rel => exact ⟨i + 1, by omega, by go_num, d9⟩
      case measure => simp [intOf] <;> omega
    ·obtain rfl : i = G.length := by omega
     have hii : ¬ (G.length : Int) < (G.length : Int) := by omega
     go_wp2_with fail
     go_ret
     exact ⟨rfl, eX.trans eV⟩
  ·have hf2 := (frE_cases ka kb).resolve_left hf
   rw [hf2] at Hfc
   refine (Hst.out _ ep).mono ?_
   rintro e W6 (⟨_, rfl, hE6⟩ | ⟨_, _, _, q, _⟩)
   case inr => exact absurd q hf
   have e6 := ep.trans hE6
   replace x0 := hE6.cell x0
   replace x1 := hE6.cell x1
   replace x2 := hE6.cell x2
   replace x3 := hE6.cell x3
   replace z0 := hE6.cell z0
   replace z1 := hE6.cell z1
   replace z2 := hE6.cell z2
   replace z3 := hE6.cell z3
   replace r0 := hE6.cell r0
   replace r1 := hE6.cell r1
   replace p0 := hE6.cell p0
   replace p1 := hE6.cell p1
   replace p2 := hE6.cell p2
   replace p3 := hE6.cell p3
   clear hE6 Hst hok hf hf2
   have eAq := (Ext.refl W6).alloc (.cells #[.slice none 0 0, .slice none 0 0, .slice none 0 0, .slice none 0 0] 44)
   have yx0 := eAq.cell x0
   have yx1 := eAq.cell x1
   have yx2 := eAq.cell x2
   have yx3 := eAq.cell x3
   have yz0 := eAq.cell z0
   have yz1 := eAq.cell z1
   have yz2 := eAq.cell z2
   have yz3 := eAq.cell z3
   have yr0 := eAq.cell r0
   have yr1 := eAq.cell r1
   have yp0 := eAq.cell p0
   have yp1 := eAq.cell p1
   have yp2 := eAq.cell p2
   have yp3 := eAq.cell p3
   have q0 : (W6.alloc (.cells #[.slice none 0 0, .slice none 0 0, .slice none 0 0, .slice none 0 0] 44)).cell? ⟨W6.heap.size, 0, none⟩ = some (.slice none 0 0) := by go_simp
   have q1 : (W6.alloc (.cells #[.slice none 0 0, .slice none 0 0, .slice none 0 0, .slice none 0 0] 44)).cell? ⟨W6.heap.size, 1, none⟩ = some (.slice none 0 0) := by go_simp
   have q2 : (W6.alloc (.cells #[.slice none 0 0, .slice none 0 0, .slice none 0 0, .slice none 0 0] 44)).cell? ⟨W6.heap.size, 2, none⟩ = some (.slice none 0 0) := by go_simp
   have q3 : (W6.alloc (.cells #[.slice none 0 0, .slice none 0 0, .slice none 0 0, .slice none 0 0] 44)).cell? ⟨W6.heap.size, 3, none⟩ = some (.slice none 0 0) := by go_simp
   have eq := e6.trans eAq
   go_wp2_with fail
   clear x0 x1 x2 x3 z0 z1 z2 z3 r0 r1 p0 p1 p2 p3 eAq
   have x0 := yx0
   clear yx0
   have x1 := yx1
   clear yx1
   have x2 := yx2
   clear yx2
   have x3 := yx3
   clear yx3
   have z0 := yz0
   clear yz0
   have z1 := yz1
   clear yz1
   have z2 := yz2
   clear yz2
   have z3 := yz3
   clear yz3
   have r0 := yr0
   clear yr0
   have r1 := yr1
   clear yr1
   have p0 := yp0
   clear yp0
   have p1 := yp1
   clear yp1
   have p2 := yp2
   clear yp2
   have p3 := yp3
   clear yp3
   generalize W6.alloc (.cells #[.slice none 0 0, .slice none 0 0, .slice none 0 0, .slice none 0 0] 44) = Xq at *
   generalize W6.heap.size = bq at *
   refine (Hfc.out _ eq).mono ?_
   rintro e W7 ⟨rfl, hE7⟩
   have e7 := eq.trans hE7
   replace x0 := hE7.cell x0
   replace x1 := hE7.cell x1
   replace x2 := hE7.cell x2
   replace x3 := hE7.cell x3
   replace z0 := hE7.cell z0
   replace z1 := hE7.cell z1
   replace z2 := hE7.cell z2
   replace z3 := hE7.cell z3
   replace r0 := hE7.cell r0
   replace r1 := hE7.cell r1
   replace p0 := hE7.cell p0
   replace p1 := hE7.cell p1
   replace p2 := hE7.cell p2
   replace p3 := hE7.cell p3
   replace q0 := hE7.cell q0
   replace q1 := hE7.cell q1
   replace q2 := hE7.cell q2
   replace q3 := hE7.cell q3
   clear hE7 Hfc
   go_wp2_with fail
   refine (Hs18.out _ e7).mono ?_
   rintro e W8 ⟨rfl, hE8⟩
   have e8 := e7.trans hE8
   replace x0 := hE8.cell x0
   replace x1 := hE8.cell x1
   replace x2 := hE8.cell x2
   replace x3 := hE8.cell x3
   replace z0 := hE8.cell z0
   replace z1 := hE8.cell z1
   replace z2 := hE8.cell z2
   replace z3 := hE8.cell z3
   replace r0 := hE8.cell r0
   replace r1 := hE8.cell r1
   replace p0 := hE8.cell p0
   replace p1 := hE8.cell p1
   replace p2 := hE8.cell p2
   replace p3 := hE8.cell p3
   replace q0 := hE8.cell q0
   replace q1 := hE8.cell q1
   replace q2 := hE8.cell q2
   replace q3 := hE8.cell q3
   clear hE8 Hs18 e7
   go_wp2_with fail
   refine blankZ_any.mono ?_
   rintro e W9 ⟨rfl, hE9⟩
   have e9 := e8.trans hE9
   replace x0 := hE9.cell x0
   replace x1 := hE9.cell x1
   replace x2 := hE9.cell x2
   replace x3 := hE9.cell x3
   replace z0 := hE9.cell z0
   replace z1 := hE9.cell z1
   replace z2 := hE9.cell z2
   replace z3 := hE9.cell z3
   replace r0 := hE9.cell r0
   replace r1 := hE9.cell r1
   replace p0 := hE9.cell p0
   replace p1 := hE9.cell p1
   replace p2 := hE9.cell p2
   replace p3 := hE9.cell p3
   replace q0 := hE9.cell q0
   replace q1 := hE9.cell q1
   replace q2 := hE9.cell q2
   replace q3 := hE9.cell q3
   go_wp2_with fail
   refine blankZ_any.mono ?_
   rintro e W10 ⟨rfl, hE10⟩
   have e10 := e9.trans hE10
   go_wp2_with fail
   go_ret
   exact ⟨rfl, eX.trans e10⟩
 ·obtain ⟨rfl, rfl, rfl⟩ := he
  replace x0 := hE1.cell x0
  replace x1 := hE1.cell x1
  replace x2 := hE1.cell x2
  replace x3 := hE1.cell x3
  replace z0 := hE1.cell z0
  replace z1 := hE1.cell z1
  replace z2 := hE1.cell z2
  replace z3 := hE1.cell z3
  replace r0 := hE1.cell r0
  replace r1 := hE1.cell r1
  rw [decide_eq_true (show P = P ∧ C = C ∧ M = M from ⟨rfl, rfl, rfl⟩)] at Hs18
  have hf2 := (frE_cases ka kb).resolve_left hf
  rw [hf2] at Hfc
  clear hok2 Hbl
  have eAp := (Ext.refl Y).alloc (.cells #[.slice none 0 0, .slice none 0 0, .slice none 0 0, .slice none 0 0] 44)
  have yx0 := eAp.cell x0
  have yx1 := eAp.cell x1
  have yx2 := eAp.cell x2
  have yx3 := eAp.cell x3
  have yz0 := eAp.cell z0
  have yz1 := eAp.cell z1
  have yz2 := eAp.cell z2
  have yz3 := eAp.cell z3
  have yr0 := eAp.cell r0
  have yr1 := eAp.cell r1
  have p0 : (Y.alloc (.cells #[.slice none 0 0, .slice none 0 0, .slice none 0 0, .slice none 0 0] 44)).cell? ⟨Y.heap.size, 0, none⟩ = some (.slice none 0 0) := by go_simp
  have p1 : (Y.alloc (.cells #[.slice none 0 0, .slice none 0 0, .slice none 0 0, .slice none 0 0] 44)).cell? ⟨Y.heap.size, 1, none⟩ = some (.slice none 0 0) := by go_simp
  have p2 : (Y.alloc (.cells #[.slice none 0 0, .slice none 0 0, .slice none 0 0, .slice none 0 0] 44)).cell? ⟨Y.heap.size, 2, none⟩ = some (.slice none 0 0) := by go_simp
  have p3 : (Y.alloc (.cells #[.slice none 0 0, .slice none 0 0, .slice none 0 0, .slice none 0 0] 44)).cell? ⟨Y.heap.size, 3, none⟩ = some (.slice none 0 0) := by go_simp
  have ep := hE1.trans eAp
  go_wp2_with fail
  clear x0 x1 x2 x3 z0 z1 z2 z3 r0 r1 eAp
  have x0 := yx0
  clear yx0
  have x1 := yx1
  clear yx1
  have x2 := yx2
  clear yx2
  have x3 := yx3
  clear yx3
  have z0 := yz0
  clear yz0
  have z1 := yz1
  clear yz1
  have z2 := yz2
  clear yz2
  have z3 := yz3
  clear yz3
  have r0 := yr0
  clear yr0
  have r1 := yr1
  clear yr1
  generalize Y.alloc (.cells #[.slice none 0 0, .slice none 0 0, .slice none 0 0, .slice none 0 0] 44) = Xp at *
  generalize Y.heap.size = bp at *
  refine (Hst.out _ ep).mono ?_
  rintro e W6 (⟨_, rfl, hE6⟩ | ⟨_, _, _, q, _⟩)
  case inr => exact absurd q hf
  have e6 := ep.trans hE6
  replace x0 := hE6.cell x0
  replace x1 := hE6.cell x1
  replace x2 := hE6.cell x2
  replace x3 := hE6.cell x3
  replace z0 := hE6.cell z0
  replace z1 := hE6.cell z1
  replace z2 := hE6.cell z2
  replace z3 := hE6.cell z3
  replace r0 := hE6.cell r0
  replace r1 := hE6.cell r1
  replace p0 := hE6.cell p0
  replace p1 := hE6.cell p1
  replace p2 := hE6.cell p2
  replace p3 := hE6.cell p3
  clear hE6 Hst hok hf hf2
  have eAq := (Ext.refl W6).alloc (.cells #[.slice none 0 0, .slice none 0 0, .slice none 0 0, .slice none 0 0] 44)
  have yx0 := eAq.cell x0
  have yx1 := eAq.cell x1
  have yx2 := eAq.cell x2
  have yx3 := eAq.cell x3
  have yz0 := eAq.cell z0
  have yz1 := eAq.cell z1
  have yz2 := eAq.cell z2
  have yz3 := eAq.cell z3
  have yr0 := eAq.cell r0
  have yr1 := eAq.cell r1
  have yp0 := eAq.cell p0
  have yp1 := eAq.cell p1
  have yp2 := eAq.cell p2
  have yp3 := eAq.cell p3
  have q0 : (W6.alloc (.cells #[.slice none 0 0, .slice none 0 0, .slice none 0 0, .slice none 0 0] 44)).cell? ⟨W6.heap.size, 0, none⟩ = some (.slice none 0 0) := by go_simp
  have q1 : (W6.alloc (.cells #[.slice none 0 0, .slice none 0 0, .slice none 0 0, .slice none 0 0] 44)).cell? ⟨W6.heap.size, 1, none⟩ = some (.slice none 0 0) := by go_simp
  have q2 : (W6.alloc (.cells #[.slice none 0 0, .slice none 0 0, .slice none 0 0, .slice none 0 0] 44)).cell? ⟨W6.heap.size, 2, none⟩ = some (.slice none 0 0) := by go_simp
  have q3 : (W6.alloc (.cells #[.slice none 0 0, .slice none 0 0, .slice none 0 0, .slice none 0 0] 44)).cell? ⟨W6.heap.size, 3, none⟩ = some (.slice none 0 0) := by go_simp
  have eq := e6.trans eAq
  go_wp2_with fail
  clear x0 x1 x2 x3 z0 z1 z2 z3 r0 r1 p0 p1 p2 p3 eAq
  have x0 := yx0
  clear yx0
  have x1 := yx1
  clear yx1
  have x2 := yx2
  clear yx2
  have x3 := yx3
  clear yx3
  have z0 := yz0
  clear yz0
  have z1 := yz1
  clear yz1
  have z2 := yz2
  clear yz2
  have z3 := yz3
  clear yz3
  have r0 := yr0
  clear yr0
  have r1 := yr1
  clear yr1
  have p0 := yp0
  clear yp0
  have p1 := yp1
  clear yp1
  have p2 := yp2
  clear yp2
  have p3 := yp3
  clear yp3
  generalize W6.alloc (.cells #[.slice none 0 0, .slice none 0 0, .slice none 0 0, .slice none 0 0] 44) = Xq at *
  generalize W6.heap.size = bq at *
  refine (Hfc.out _ eq).mono ?_
  rintro e W7 ⟨rfl, hE7⟩
  have e7 := eq.trans hE7
  replace x0 := hE7.cell x0
  replace x1 := hE7.cell x1
  replace x2 := hE7.cell x2
  replace x3 := hE7.cell x3
  replace z0 := hE7.cell z0
  replace z1 := hE7.cell z1
  replace z2 := hE7.cell z2
  replace z3 := hE7.cell z3
  replace r0 := hE7.cell r0
  replace r1 := hE7.cell r1
  replace p0 := hE7.cell p0
  replace p1 := hE7.cell p1
  replace p2 := hE7.cell p2
  replace p3 := hE7.cell p3
  replace q0 := hE7.cell q0
  replace q1 := hE7.cell q1
  replace q2 := hE7.cell q2
  replace q3 := hE7.cell q3
  clear hE7 Hfc
  go_wp2_with fail
  refine (Hs18.out _ e7).mono ?_
  rintro e W8 ⟨rfl, hE8⟩
  have e8 := e7.trans hE8
  replace x0 := hE8.cell x0
  replace x1 := hE8.cell x1
  replace x2 := hE8.cell x2
  replace x3 := hE8.cell x3
  replace z0 := hE8.cell z0
  replace z1 := hE8.cell z1
  replace z2 := hE8.cell z2
  replace z3 := hE8.cell z3
  replace r0 := hE8.cell r0
  replace r1 := hE8.cell r1
  replace p0 := hE8.cell p0
  replace p1 := hE8.cell p1
  replace p2 := hE8.cell p2
  replace p3 := hE8.cell p3
  replace q0 := hE8.cell q0
  replace q1 := hE8.cell q1
  replace q2 := hE8.cell q2
  replace q3 := hE8.cell q3
  clear hE8 Hs18 e7
  go_wp2_with fail
  refine blankZ_any.mono ?_
  rintro e W9 ⟨rfl, hE9⟩
  have e9 := e8.trans hE9
  replace x0 := hE9.cell x0
  replace x1 := hE9.cell x1
  replace x2 := hE9.cell x2
  replace x3 := hE9.cell x3
  replace z0 := hE9.cell z0
  replace z1 := hE9.cell z1
  replace z2 := hE9.cell z2
  replace z3 := hE9.cell z3
  replace r0 := hE9.cell r0
  replace r1 := hE9.cell r1
  replace p0 := hE9.cell p0
  replace p1 := hE9.cell p1
  replace p2 := hE9.cell p2
  replace p3 := hE9.cell p3
  replace q0 := hE9.cell q0
  replace q1 := hE9.cell q1
  replace q2 := hE9.cell q2
  replace q3 := hE9.cell q3
  go_wp2_with fail
  refine blankZ_any.mono ?_
  rintro e W10 ⟨rfl, hE10⟩
  have e10 := e9.trans hE10
  go_wp2_with fail
  go_ret
  exact ⟨rfl, eX.trans e10⟩
 ·obtain ⟨rfl, rfl, rfl⟩ := he
  rw [decide_eq_true (show P = P ∧ C = C ∧ M = M from ⟨rfl, rfl, rfl⟩)] at Hs18
  rw [hf] at Hfc
  obtain ⟨hn1, hn2⟩ := Hnd.out k hk1 hk2
  obtain ⟨⟨t, rfl, hTR⟩, hE1⟩ := md_yes hmd (hok2.out rfl k hn1 hn2)
  obtain ⟨xsp, xcp, xsc, xlc, xcc, xsm, xlm, xcm, xsg, xlg, xcg, rfl, hTV⟩ := hTR
  have htl := hTV.gn.len
  rw [bldG_length] at htl
  subst htl
  have HKx := Lib.hid (And.intro (And.intro hk1 hk2) (And.intro hn1 hn2))
  have HTx := Lib.hid hTV
  obtain ⟨kx, hkx⟩ : ∃ kx, kx = k := ⟨_, rfl⟩
  rw [← hkx] at HKx HTx
  clear hmd hTV hk1 hk2 hn1 hn2 hkx hok2 Hbl
  replace x0 := hE1.cell x0
  replace x1 := hE1.cell x1
  replace x2 := hE1.cell x2
  replace x3 := hE1.cell x3
  replace z0 := hE1.cell z0
  replace z1 := hE1.cell z1
  replace z2 := hE1.cell z2
  replace z3 := hE1.cell z3
  replace r0 := hE1.cell r0
  replace r1 := hE1.cell r1
  have eAp := (Ext.refl Y).alloc (.cells #[.slice xsp P.length xcp, .slice xsc xlc xcc, .slice xsm xlm xcm, .slice xsg G.length xcg] 44)
  have yx0 := eAp.cell x0
  have yx1 := eAp.cell x1
  have yx2 := eAp.cell x2
  have yx3 := eAp.cell x3
  have yz0 := eAp.cell z0
  have yz1 := eAp.cell z1
  have yz2 := eAp.cell z2
  have yz3 := eAp.cell z3
  have yr0 := eAp.cell r0
  have yr1 := eAp.cell r1
  have p0 : (Y.alloc (.cells #[.slice xsp P.length xcp, .slice xsc xlc xcc, .slice xsm xlm xcm, .slice xsg G.length xcg] 44)).cell? ⟨Y.heap.size, 0, none⟩ = some (.slice xsp P.length xcp) := by go_simp
  have p1 : (Y.alloc (.cells #[.slice xsp P.length xcp, .slice xsc xlc xcc, .slice xsm xlm xcm, .slice xsg G.length xcg] 44)).cell? ⟨Y.heap.size, 1, none⟩ = some (.slice xsc xlc xcc) := by go_simp
  have p2 : (Y.alloc (.cells #[.slice xsp P.length xcp, .slice xsc xlc xcc, .slice xsm xlm xcm, .slice xsg G.length xcg] 44)).cell? ⟨Y.heap.size, 2, none⟩ = some (.slice xsm xlm xcm) := by go_simp
  have p3 : (Y.alloc (.cells #[.slice xsp P.length xcp, .slice xsc xlc xcc, .slice xsm xlm xcm, .slice xsg G.length xcg] 44)).cell? ⟨Y.heap.size, 3, none⟩ = some (.slice xsg G.length xcg) := by go_simp
  have ep := hE1.trans eAp
  replace HTx := Lib.hid (HTx.out.ext eAp)
  go_wp2_with fail
  clear x0 x1 x2 x3 z0 z1 z2 z3 r0 r1 eAp
  have x0 := yx0
  clear yx0
  have x1 := yx1
  clear yx1
  have x2 := yx2
  clear yx2
  have x3 := yx3
  clear yx3
  have z0 := yz0
  clear yz0
  have z1 := yz1
  clear yz1
  have z2 := yz2
  clear yz2
  have z3 := yz3
  clear yz3
  have r0 := yr0
  clear yr0
  have r1 := yr1
  clear yr1
  generalize Y.alloc (.cells #[.slice xsp P.length xcp, .slice xsc xlc xcc, .slice xsm xlm xcm, .slice xsg G.length xcg] 44) = Xp at *
  generalize Y.heap.size = bp at *
  refine (Hst.out _ ep).mono ?_
  rintro e W6 (⟨q, _⟩ | ⟨k, hk1, hk2, _, hmd⟩)
  ·exact absurd hf q
  obtain ⟨hn1, hn2⟩ := Hnd.out k hk1 hk2
  obtain ⟨⟨t, rfl, hTR⟩, hE6⟩ := md_yes hmd (hok.out k hn1 hn2)
  obtain ⟨tsp, tcp, tsc, tlc, tcc, tsm, tlm, tcm, tsg, tlg, tcg, rfl, hTV⟩ := hTR
  have htl := hTV.gn.len
  rw [strG_length] at htl
  subst htl
  have HK := Lib.hid (And.intro (And.intro hk1 hk2) (And.intro hn1 hn2))
  have e6 := ep.trans hE6
  have HTy := Lib.hid hTV
  replace x0 := hE6.cell x0
  replace x1 := hE6.cell x1
  replace x2 := hE6.cell x2
  replace x3 := hE6.cell x3
  replace z0 := hE6.cell z0
  replace z1 := hE6.cell z1
  replace z2 := hE6.cell z2
  replace z3 := hE6.cell z3
  replace r0 := hE6.cell r0
  replace r1 := hE6.cell r1
  replace p0 := hE6.cell p0
  replace p1 := hE6.cell p1
  replace p2 := hE6.cell p2
  replace p3 := hE6.cell p3
  replace HTx := Lib.hid (HTx.out.ext hE6)
  clear hmd hTV hk1 hk2 hn1 hn2 hE6 Hst hok
  have eAq := (Ext.refl W6).alloc (.cells #[.slice tsp P.length tcp, .slice tsc tlc tcc, .slice tsm tlm tcm, .slice tsg G.length tcg] 44)
  have yx0 := eAq.cell x0
  have yx1 := eAq.cell x1
  have yx2 := eAq.cell x2
  have yx3 := eAq.cell x3
  have yz0 := eAq.cell z0
  have yz1 := eAq.cell z1
  have yz2 := eAq.cell z2
  have yz3 := eAq.cell z3
  have yr0 := eAq.cell r0
  have yr1 := eAq.cell r1
  have yp0 := eAq.cell p0
  have yp1 := eAq.cell p1
  have yp2 := eAq.cell p2
  have yp3 := eAq.cell p3
  have q0 : (W6.alloc (.cells #[.slice tsp P.length tcp, .slice tsc tlc tcc, .slice tsm tlm tcm, .slice tsg G.length tcg] 44)).cell? ⟨W6.heap.size, 0, none⟩ = some (.slice tsp P.length tcp) := by go_simp
  have q1 : (W6.alloc (.cells #[.slice tsp P.length tcp, .slice tsc tlc tcc, .slice tsm tlm tcm, .slice tsg G.length tcg] 44)).cell? ⟨W6.heap.size, 1, none⟩ = some (.slice tsc tlc tcc) := by go_simp
  have q2 : (W6.alloc (.cells #[.slice tsp P.length tcp, .slice tsc tlc tcc, .slice tsm tlm tcm, .slice tsg G.length tcg] 44)).cell? ⟨W6.heap.size, 2, none⟩ = some (.slice tsm tlm tcm) := by go_simp
  have q3 : (W6.alloc (.cells #[.slice tsp P.length tcp, .slice tsc tlc tcc, .slice tsm tlm tcm, .slice tsg G.length tcg] 44)).cell? ⟨W6.heap.size, 3, none⟩ = some (.slice tsg G.length tcg) := by go_simp
  have eq := e6.trans eAq
  replace HTy := Lib.hid (HTy.out.ext eAq)
  replace HTx := Lib.hid (HTx.out.ext eAq)
  go_wp2_with fail
  clear x0 x1 x2 x3 z0 z1 z2 z3 r0 r1 p0 p1 p2 p3 eAq
  have x0 := yx0
  clear yx0
  have x1 := yx1
  clear yx1
  have x2 := yx2
  clear yx2
  have x3 := yx3
  clear yx3
  have z0 := yz0
  clear yz0
  have z1 := yz1
  clear yz1
  have z2 := yz2
  clear yz2
  have z3 := yz3
  clear yz3
  have r0 := yr0
  clear yr0
  have r1 := yr1
  clear yr1
  have p0 := yp0
  clear yp0
  have p1 := yp1
  clear yp1
  have p2 := yp2
  clear yp2
  have p3 := yp3
  clear yp3
  generalize W6.alloc (.cells #[.slice tsp P.length tcp, .slice tsc tlc tcc, .slice tsm tlm tcm, .slice tsg G.length tcg] 44) = Xq at *
  generalize W6.heap.size = bq at *
  refine (Hfc.out _ eq).mono ?_
  rintro e W7 ⟨rfl, hE7⟩
  have e7 := eq.trans hE7
  replace x0 := hE7.cell x0
  replace x1 := hE7.cell x1
  replace x2 := hE7.cell x2
  replace x3 := hE7.cell x3
  replace z0 := hE7.cell z0
  replace z1 := hE7.cell z1
  replace z2 := hE7.cell z2
  replace z3 := hE7.cell z3
  replace r0 := hE7.cell r0
  replace r1 := hE7.cell r1
  replace p0 := hE7.cell p0
  replace p1 := hE7.cell p1
  replace p2 := hE7.cell p2
  replace p3 := hE7.cell p3
  replace q0 := hE7.cell q0
  replace q1 := hE7.cell q1
  replace q2 := hE7.cell q2
  replace q3 := hE7.cell q3
  replace HTy := Lib.hid (HTy.out.ext hE7)
  replace HTx := Lib.hid (HTx.out.ext hE7)
  clear hE7 Hfc
  go_wp2_with fail
  refine (Hs18.out _ e7).mono ?_
  rintro e W8 ⟨rfl, hE8⟩
  have e8 := e7.trans hE8
  replace x0 := hE8.cell x0
  replace x1 := hE8.cell x1
  replace x2 := hE8.cell x2
  replace x3 := hE8.cell x3
  replace z0 := hE8.cell z0
  replace z1 := hE8.cell z1
  replace z2 := hE8.cell z2
  replace z3 := hE8.cell z3
  replace r0 := hE8.cell r0
  replace r1 := hE8.cell r1
  replace p0 := hE8.cell p0
  replace p1 := hE8.cell p1
  replace p2 := hE8.cell p2
  replace p3 := hE8.cell p3
  replace q0 := hE8.cell q0
  replace q1 := hE8.cell q1
  replace q2 := hE8.cell q2
  replace q3 := hE8.cell q3
  replace HTy := Lib.hid (HTy.out.ext hE8)
  replace HTx := Lib.hid (HTx.out.ext hE8)
  clear hE8 Hs18 e7
  have hs3 := Lib.hid (Same18_any HTx.out.tm (HT.out.tm.ext e8))
  rw [decide_eq_true (show P = P ∧ C = C ∧ M = M from ⟨rfl, rfl, rfl⟩)] at hs3
  go_wp2_with fail
  refine hs3.out.mono ?_
  rintro e U0 ⟨rfl, hF0⟩
  have u0 := e8.trans hF0
  replace x0 := hF0.cell x0
  replace x1 := hF0.cell x1
  replace x2 := hF0.cell x2
  replace x3 := hF0.cell x3
  replace z0 := hF0.cell z0
  replace z1 := hF0.cell z1
  replace z2 := hF0.cell z2
  replace z3 := hF0.cell z3
  replace r0 := hF0.cell r0
  replace r1 := hF0.cell r1
  replace p0 := hF0.cell p0
  replace p1 := hF0.cell p1
  replace p2 := hF0.cell p2
  replace p3 := hF0.cell p3
  replace q0 := hF0.cell q0
  replace q1 := hF0.cell q1
  replace q2 := hF0.cell q2
  replace q3 := hF0.cell q3
  replace HTy := Lib.hid (HTy.out.ext hF0)
  replace HTx := Lib.hid (HTx.out.ext hF0)
  clear hs3 hF0
  go_wp2_with fail
  have hg4 : G.length ≤ 4 := by have := HT.out.tm.m4; have := HT.out.ln; omega
  have Hgg := Lib.hid (show G'.length = G.length by have := HT.out.ln; have := HT'.out.ln; omega)
  have hp4 := HT.out.tm.ok.p4
  have Hcl := Lib.hid HT.out.cl
  have Hsh := Lib.hid HT.out.sh
  have Hcl' := Lib.hid HT'.out.cl
  have Hsh' := Lib.hid HT'.out.sh
  obtain ⟨sg1, ga, oa, cga, va, ev, hca, hvA, hSa, hrA⟩ := HT.out.gn
  injection ev with ev1 ev2 ev3
  subst ev1 ev3
  obtain ⟨sg2, gb, ob, cgb, vb, ew', hcb, hvB, hSb, hrB⟩ := HTx.out.gn
  injection ew' with ew1 ew2 ew3
  subst ew1 ew3
  rw [bldG_length] at hcb hvB
  obtain ⟨sg3, gd, od, cgd, vd, ez', hcd, hvD, hSd, hrD⟩ := HT'.out.gn
  injection ez' with ez1 ez2 ez3
  subst ez1 ez3
  have HA := Lib.hid hSa
  have HvA := Lib.hid hvA
  have HrA := Lib.hid hrA
  have HB := Lib.hid hSb
  have HvB := Lib.hid hvB
  have HrB := Lib.hid hrB
  have HD := Lib.hid hSd
  have HvD := Lib.hid hvD
  have HrD := Lib.hid hrD
  have Hkq := Lib.hid (show NdQ 40 kx from ⟨by have := HKx.out.2.1; omega, by have := HKx.out.2.2; omega⟩)
  have Hkr := Lib.hid (show NdQ 42 (1 - kx) from ((NdQ.one (E := 1) (by omega)).sub Hkq.out).mono (by omega))
  have Hw1 := Lib.hid (fun W (hW : Ext U0 W) => whole24_any (n := 1) (by omega) (HL.out.ext ((eX.trans u0).trans hW)))
  rw [RV_one] at Hw1
  have Hsb := Lib.hid (fun W (hW : Ext U0 W) => ratSub_any (a := 1) (b := kx) ((NdQ.one (E := 1) (by omega)).smQ (by omega)) (Hkq.out.smQ (by omega)) (HL.out.ext ((eX.trans u0).trans hW)))
  rw [show RV (1 : Rat) = .agg #[.string ⟨#[49]⟩, .string ⟨#[49]⟩] by show Value.agg #[I (1 : Rat).num, I ((1 : Rat).den : Int)] = _; rw [I_one1.1, I_one1.2]] at Hsb
  clear hSa hvA hrA hSb hvB hrB hSd hvD hrD hca hcb hcd ev2 ew2 ez2
  go_loopw [16] (fun iv wr => ∃ i : Nat, i ≤ G.length ∧ iv = .int .i64 i ∧ Ext U0 wr) (fun iv _ => G.length - (intOf iv).toNat)
  case atStart => exact ⟨0, by omega, by go_num, Ext.refl _⟩
  case round =>
   obtain ⟨i, hi, rfl, hE⟩ := hrel
   generalize wr = V at *
   have eV := u0.trans hE
   have v3 := hE.cell x3
   by_cases hlt : i < G.length
   ·have hii : (i : Int) < (G.length : Int) := by omega
    have hii' : (i : Int) < (G'.length : Int) := by have := Hgg.out; omega
    have hlt' : i < G'.length := by have := Hgg.out; omega
    have hiv : i < va.length := by rw [HvA.out]; exact hlt
    have hiw : i < vb.length := by rw [HvB.out]; exact hlt
    have hix : i < vd.length := by rw [HvD.out]; exact hlt'
    have haa := HA.out.addr (by omega)
    have hbb := HB.out.addr (by omega)
    have hdd := HD.out.addr (by omega)
    have c0 := eV.cell (HA.out.cell i _ (List.getElem?_eq_getElem hiv))
    have c1 := hE.cell (HB.out.cell i _ (List.getElem?_eq_getElem hiw))
    have c2 := eV.cell (HD.out.cell i _ (List.getElem?_eq_getElem hix))
    have hsA := (HrA.out i hlt hiv).ext eV
    have hsB := (HrB.out i (by simpa using hlt) hiw).ext hE
    have hsD := (HrD.out i hlt' hix).ext eV
    have hgB : (bldG G G' kx P.length)[i]'(by simpa using hlt) = cmbQ [G[i], G'[i]] [1 - kx, kx] P.length := by simp [bldG, hlt, hlt']
    rw [hgB] at hsB
    obtain ⟨xa, xc, ex⟩ := szR_slc hsA
    rw [ex, Hcl.out _ (List.getElem_mem hlt)] at c0 hsA
    obtain ⟨ya, yc, ey⟩ := szR_slc hsB
    rw [ey, cmbQ_length] at c1 hsB
    obtain ⟨wa, wc, ewx⟩ := szR_slc hsD
    rw [ewx, Hcl'.out _ (List.getElem_mem hlt')] at c2 hsD
    have Hsl := Lib.hid (Hsh.out _ (List.getElem_mem hlt))
    have Hcll := Lib.hid (Hcl.out _ (List.getElem_mem hlt))
    have Hsl' := Lib.hid (Hsh'.out _ (List.getElem_mem hlt'))
    have Hcll' := Lib.hid (Hcl'.out _ (List.getElem_mem hlt'))
    obtain ⟨l, hl⟩ : ∃ l, l = G[i] := ⟨_, rfl⟩
    obtain ⟨q, hq⟩ : ∃ l, l = G'[i] := ⟨_, rfl⟩
    rw [← hl] at hsA hsB Hsl Hcll
    rw [← hq] at hsD hsB Hsl' Hcll'
    have HsA := Lib.hid hsA
    have HsB := Lib.hid hsB
    have HsD := Lib.hid hsD
    have va0 := hE.cell r0
    have vb0 := hE.cell r1
    rw [show S ka = I kx.num by rw [HKx.out.1.1]] at va0
    rw [show S kb = I kx.den by rw [HKx.out.1.2]] at vb0
    have vp3 := hE.cell p3
    have vz3 := hE.cell z3
    rw [haa] at v3
    rw [hbb] at vp3
    rw [hdd] at vz3
    have hi64 : i < 9223372036854775806 := by omega
    have Hcm := Lib.hid (fun W v fv (hW : Ext V W) (hv : GnR W v [l, q]) (hfv : SzR W fv [1 - kx, kx]) => combine24_any (np := P.length) hv hfv (fun s hs => by
     simp only [List.mem_cons, List.not_mem_nil, or_false] at hs
     rcases hs with rfl | rfl
     ·exact Hcll.out
     ·exact Hcll'.out) (by simp) (fun s hs => by
     simp only [List.mem_cons, List.not_mem_nil, or_false] at hs
     rcases hs with rfl | rfl
     ·exact shQ_nd Hsl.out (by omega)
     ·exact shQ_nd Hsl'.out (by omega)) (fun r hr => by
     simp only [List.mem_cons, List.not_mem_nil, or_false] at hr
     rcases hr with rfl | rfl
     ·exact Hkr.out.mono (by omega)
     ·exact Hkq.out.mono (by omega)) (by omega) (by simp) (HL.out.ext ((eX.trans eV).trans hW)))
    clear hsA hsB hsD ex ey ewx hl hq hiv hiw hix hlt hlt' hgB haa hbb hdd
    go_wp2_with fail
    have d0 : Ext V V.drew := (Ext.refl V).drew
    refine wp_region_held_tail (S := fun W => Ext V W) 24 (by kernel_rfl) (by simp) ?_
    intro inv
    generalize V.drew = V1 at *
    refine wpAnyLH_take (i := 0) (v := .pointer (some ⟨bp, 3, none⟩)) rfl (by kernel_rfl) (fun _ _ _ h => h) (.inl ⟨by rfl, fun W hW => by go_simp⟩) d0 inv ?_
    intro inv
    go_simp
    refine wpAnyLH_take (i := 1) (v := .slice (some ⟨gb, ob, none⟩) G.length xcg) rfl (by kernel_rfl) (fun _ _ _ h => h) (.inl ⟨by rfl, fun W hW => by have q7 := hW.cell vp3; go_simp⟩) d0 inv ?_
    intro inv
    go_simp
    refine wpAnyLH_take (i := 2) (v := .int .i64 i) rfl (by kernel_rfl) (fun _ _ _ h => h) (.inl ⟨by rfl, fun W hW => by go_simp⟩) d0 inv ?_
    intro inv
    go_simp
    refine wpAnyLH_take (i := 3) (v := .pointer (some ⟨gb, ob + i, none⟩)) rfl (by kernel_rfl) (fun _ _ _ h => h) (.inl ⟨by rfl, fun W hW => by go_simp⟩) d0 inv ?_
    intro inv
    go_simp
    refine wpAnyLH_take (i := 4) (v := .slice ya P.length yc) rfl (by kernel_rfl) (fun _ _ _ h => h) (.inl ⟨by rfl, fun W hW => by have q7 := hW.cell c1; go_simp⟩) d0 inv ?_
    intro inv
    go_simp
    refine wpAnyLH_take (i := 5) (v := .pointer (some ⟨b5, 3, none⟩)) rfl (by kernel_rfl) (fun _ _ _ h => h) (.inl ⟨by rfl, fun W hW => by go_simp⟩) d0 inv ?_
    intro inv
    go_simp
    refine wpAnyLH_take (i := 6) (v := .slice (some ⟨ga, oa, none⟩) G.length cg) rfl (by kernel_rfl) (fun _ _ _ h => h) (.inl ⟨by rfl, fun W hW => by have q7 := hW.cell v3; go_simp⟩) d0 inv ?_
    intro inv
    go_simp
    refine wpAnyLH_take (i := 7) (v := .int .i64 i) rfl (by kernel_rfl) (fun _ _ _ h => h) (.inl ⟨by rfl, fun W hW => by go_simp⟩) d0 inv ?_
    intro inv
    go_simp
    refine wpAnyLH_take (i := 8) (v := .pointer (some ⟨ga, oa + i, none⟩)) rfl (by kernel_rfl) (fun _ _ _ h => h) (.inl ⟨by rfl, fun W hW => by go_simp⟩) d0 inv ?_
    intro inv
    go_simp
    refine wpAnyLH_take (i := 9) (v := .slice xa P.length xc) rfl (by kernel_rfl) (fun _ _ _ h => h) (.inl ⟨by rfl, fun W hW => by have q7 := hW.cell c0; go_simp⟩) d0 inv ?_
    intro inv
    go_simp
    refine wpAnyLH_take (i := 10) (v := .pointer (some ⟨b6, 3, none⟩)) rfl (by kernel_rfl) (fun _ _ _ h => h) (.inl ⟨by rfl, fun W hW => by go_simp⟩) d0 inv ?_
    intro inv
    go_simp
    refine wpAnyLH_take (i := 11) (v := (.slice (some ⟨gd, od, none⟩) G'.length cg')) rfl (by kernel_rfl) (fun _ _ _ h => h) (.inl ⟨by rfl, fun W hW => by have q7 := hW.cell vz3; go_simp⟩) d0 inv ?_
    intro inv
    go_simp
    refine wpAnyLH_take (i := 12) (v := .int .i64 i) rfl (by kernel_rfl) (fun _ _ _ h => h) (.inl ⟨by rfl, fun W hW => by go_simp⟩) d0 inv ?_
    intro inv
    go_simp
    refine wpAnyLH_take (i := 13) (v := .pointer (some ⟨gd, od + i, none⟩)) rfl (by kernel_rfl) (fun _ _ _ h => h) (.inl ⟨by rfl, fun W hW => by go_simp⟩) d0 inv ?_
    intro inv
    go_simp
    refine wpAnyLH_take (i := 14) (v := .slice wa P.length wc) rfl (by kernel_rfl) (fun _ _ _ h => h) (.inl ⟨by rfl, fun W hW => by have q7 := hW.cell c2; go_simp⟩) d0 inv ?_
    intro inv
    go_simp
    refine wpAnyLH_take (i := 17) (v := .agg #[I kx.num, I (kx.den : Int)]) rfl (by kernel_rfl) (fun _ _ _ h => h) (.inl ⟨by rfl, fun W hW => by have q7 := hW.cell va0; have q8 := hW.cell vb0; go_simp⟩) d0 inv ?_
    intro inv
    go_simp
    refine wpAnyLH_take (i := 19) (v := .agg #[I kx.num, I (kx.den : Int)]) rfl (by kernel_rfl) (fun _ _ _ h => h) (.inl ⟨by rfl, fun W hW => by have q7 := hW.cell va0; have q8 := hW.cell vb0; go_simp⟩) d0 inv ?_
    intro inv
    go_simp
    refine wpAnyLH_take (i := 21) (v := .int .i64 P.length) rfl (by kernel_rfl) (fun _ _ _ h => h) (.inl ⟨by rfl, fun W hW => by go_simp⟩) d0 inv ?_
    intro inv
    go_simp
    refine wpAnyLH_twoII (i := 15) (j := 16) rfl rfl (by kernel_rfl) inv (fun inv K0 hK0 => ?_) (fun inv K0 hK0 => ?_)
    ·go_simp
     have t1 : Ext V (V1.alloc (.cells #[.slice xa P.length xc, .slice wa P.length wc] 52)) := d0.alloc (.cells #[.slice xa P.length xc, .slice wa P.length wc] 52)
     have HGn := Lib.hid (show GnR (V1.alloc (.cells #[.slice xa P.length xc, .slice wa P.length wc] 52)) (.slice (some ⟨V1.heap.size, 0, none⟩) 2 2) [l, q] from gn2N (by go_simp) (by go_simp) (HsA.out.ext t1) (HsD.out.ext t1))
     refine hK0 _ _ t1 ?_
     clear hK0
     generalize hT1 : V1.alloc (.cells #[.slice xa P.length xc, .slice wa P.length wc] 52) = T1 at *
     clear hT1
     refine wpAnyLH_oneI (i := 16) rfl (by kernel_rfl) inv (fun inv K0 hK0 => ?_)
     go_simp
     refine (Hw1.out _ (hE.trans t1)).mono ?_
     rintro e T2 ⟨rfl, hT2⟩
     have t2 := t1.trans hT2
     replace HGn := Lib.hid (HGn.out.ext hT2)
     refine hK0 _ _ t2 ?_
     clear hK0
     refine wpAnyLH_oneI (i := 18) rfl (by kernel_rfl) inv (fun inv K0 hK0 => ?_)
     go_simp
     refine (Hsb.out _ (hE.trans t2)).mono ?_
     rintro e T3 ⟨rfl, hT3⟩
     have t3 := t2.trans hT3
     replace HGn := Lib.hid (HGn.out.ext hT3)
     refine hK0 _ _ t3 ?_
     clear hK0
     refine wpAnyLH_oneI (i := 20) rfl (by kernel_rfl) inv (fun inv K0 hK0 => ?_)
     go_simp
     have t4 : Ext V (T3.alloc (.cells #[I (1 - kx).num, I ((1 - kx).den : Int), I kx.num, I (kx.den : Int)] 63)) := t3.alloc (.cells #[I (1 - kx).num, I ((1 - kx).den : Int), I kx.num, I (kx.den : Int)] 63)
     have HSz := Lib.hid (show SzR (T3.alloc (.cells #[I (1 - kx).num, I ((1 - kx).den : Int), I kx.num, I (kx.den : Int)] 63)) (.slice (some ⟨T3.heap.size, 0, none⟩) 2 2) [1 - kx, kx] from sz2M (by go_simp) (by go_simp) (by go_simp) (by go_simp))
     replace HGn := Lib.hid (HGn.out.ext ((Ext.refl _).alloc (.cells #[I (1 - kx).num, I ((1 - kx).den : Int), I kx.num, I (kx.den : Int)] 63)))
     refine hK0 _ _ t4 ?_
     clear hK0
     generalize hT4 : T3.alloc (.cells #[I (1 - kx).num, I ((1 - kx).den : Int), I kx.num, I (kx.den : Int)] 63) = T4 at *
     clear hT4
     refine wpAnyLH_oneI (i := 22) rfl (by kernel_rfl) inv (fun inv K0 hK0 => ?_)
     go_simp
     refine (Hcm.out _ _ _ t4 HGn.out HSz.out).mono ?_
     rintro e V3 ⟨⟨gq, rfl, hO⟩, hG3⟩
     have d2 := t4.trans hG3
     have Hq := Lib.hid (Same24_any (HsB.out.ext d2) (by have := hO.val.read; rwa [cmbQ_length] at this) (by rw [cmbQ_length]; omega))
     rw [decide_eq_true rfl] at Hq
     refine hK0 _ _ d2 ?_
     clear hK0 hO
     refine wpAnyLH_oneI (i := 23) rfl (by kernel_rfl) inv (fun inv K0 hK0 => ?_)
     go_simp
     refine Hq.out.mono ?_
     rintro e V4 ⟨rfl, hG4⟩
     have d3 := d2.trans hG4
     refine hK0 _ _ d3 ?_
     clear hK0
     refine wpAnyLH_end (by kernel_rfl) ?_
     have d9 := hE.trans d3
     clear inv d0 d2 d3 hG3 hG4 Hcm Hq HGn HSz HsA HsB HsD
     go_wp2_with fail
     go_roundw
     case rel => exact ⟨i + 1, by omega, by go_num, d9⟩
     case measure => simp [intOf] <;> omega
    ·go_simp
     refine (Hw1.out _ (hE.trans d0)).mono ?_
     rintro e T5 ⟨rfl, hT5⟩
     have t5 := d0.trans hT5
     refine hK0 _ _ t5 ?_
     clear hK0
     refine wpAnyLH_twoII (i := 15) (j := 18) rfl rfl (by kernel_rfl) inv (fun inv K0 hK0 => ?_) (fun inv K0 hK0 => ?_)
     ·go_simp
      have t6 : Ext V (T5.alloc (.cells #[.slice xa P.length xc, .slice wa P.length wc] 52)) := t5.alloc (.cells #[.slice xa P.length xc, .slice wa P.length wc] 52)
      have HGn := Lib.hid (show GnR (T5.alloc (.cells #[.slice xa P.length xc, .slice wa P.length wc] 52)) (.slice (some ⟨T5.heap.size, 0, none⟩) 2 2) [l, q] from gn2N (by go_simp) (by go_simp) (HsA.out.ext t6) (HsD.out.ext t6))
      refine hK0 _ _ t6 ?_
      clear hK0
      generalize hT6 : T5.alloc (.cells #[.slice xa P.length xc, .slice wa P.length wc] 52) = T6 at *
      clear hT6
      refine wpAnyLH_oneI (i := 18) rfl (by kernel_rfl) inv (fun inv K0 hK0 => ?_)
      go_simp
      refine (Hsb.out _ (hE.trans t6)).mono ?_
      rintro e T7 ⟨rfl, hT7⟩
      have t7 := t6.trans hT7
      replace HGn := Lib.hid (HGn.out.ext hT7)
      refine hK0 _ _ t7 ?_
      clear hK0
      refine wpAnyLH_oneI (i := 20) rfl (by kernel_rfl) inv (fun inv K0 hK0 => ?_)
      go_simp
      have t8 : Ext V (T7.alloc (.cells #[I (1 - kx).num, I ((1 - kx).den : Int), I kx.num, I (kx.den : Int)] 63)) := t7.alloc (.cells #[I (1 - kx).num, I ((1 - kx).den : Int), I kx.num, I (kx.den : Int)] 63)
      have HSz := Lib.hid (show SzR (T7.alloc (.cells #[I (1 - kx).num, I ((1 - kx).den : Int), I kx.num, I (kx.den : Int)] 63)) (.slice (some ⟨T7.heap.size, 0, none⟩) 2 2) [1 - kx, kx] from sz2M (by go_simp) (by go_simp) (by go_simp) (by go_simp))
      replace HGn := Lib.hid (HGn.out.ext ((Ext.refl _).alloc (.cells #[I (1 - kx).num, I ((1 - kx).den : Int), I kx.num, I (kx.den : Int)] 63)))
      refine hK0 _ _ t8 ?_
      clear hK0
      generalize hT8 : T7.alloc (.cells #[I (1 - kx).num, I ((1 - kx).den : Int), I kx.num, I (kx.den : Int)] 63) = T8 at *
      clear hT8
      refine wpAnyLH_oneI (i := 22) rfl (by kernel_rfl) inv (fun inv K0 hK0 => ?_)
      go_simp
      refine (Hcm.out _ _ _ t8 HGn.out HSz.out).mono ?_
      rintro e V3 ⟨⟨gq, rfl, hO⟩, hG3⟩
      have d2 := t8.trans hG3
      have Hq := Lib.hid (Same24_any (HsB.out.ext d2) (by have := hO.val.read; rwa [cmbQ_length] at this) (by rw [cmbQ_length]; omega))
      rw [decide_eq_true rfl] at Hq
      refine hK0 _ _ d2 ?_
      clear hK0 hO
      refine wpAnyLH_oneI (i := 23) rfl (by kernel_rfl) inv (fun inv K0 hK0 => ?_)
      go_simp
      refine Hq.out.mono ?_
      rintro e V4 ⟨rfl, hG4⟩
      have d3 := d2.trans hG4
      refine hK0 _ _ d3 ?_
      clear hK0
      refine wpAnyLH_end (by kernel_rfl) ?_
      have d9 := hE.trans d3
      clear inv d0 d2 d3 hG3 hG4 Hcm Hq HGn HSz HsA HsB HsD
      go_wp2_with fail
      go_roundw
      case rel => exact ⟨i + 1, by omega, by go_num, d9⟩
      case measure => simp [intOf] <;> omega
     ·go_simp
      refine (Hsb.out _ (hE.trans t5)).mono ?_
      rintro e T9 ⟨rfl, hT9⟩
      have t9 := t5.trans hT9
      refine hK0 _ _ t9 ?_
      clear hK0
      refine wpAnyLH_twoII (i := 15) (j := 20) rfl rfl (by kernel_rfl) inv (fun inv K0 hK0 => ?_) (fun inv K0 hK0 => ?_)
      ·go_simp
       have t10 : Ext V (T9.alloc (.cells #[.slice xa P.length xc, .slice wa P.length wc] 52)) := t9.alloc (.cells #[.slice xa P.length xc, .slice wa P.length wc] 52)
       have HGn := Lib.hid (show GnR (T9.alloc (.cells #[.slice xa P.length xc, .slice wa P.length wc] 52)) (.slice (some ⟨T9.heap.size, 0, none⟩) 2 2) [l, q] from gn2N (by go_simp) (by go_simp) (HsA.out.ext t10) (HsD.out.ext t10))
       refine hK0 _ _ t10 ?_
       clear hK0
       generalize hT10 : T9.alloc (.cells #[.slice xa P.length xc, .slice wa P.length wc] 52) = T10 at *
       clear hT10
       refine wpAnyLH_oneI (i := 20) rfl (by kernel_rfl) inv (fun inv K0 hK0 => ?_)
       go_simp
       have t11 : Ext V (T10.alloc (.cells #[I (1 - kx).num, I ((1 - kx).den : Int), I kx.num, I (kx.den : Int)] 63)) := t10.alloc (.cells #[I (1 - kx).num, I ((1 - kx).den : Int), I kx.num, I (kx.den : Int)] 63)
       have HSz := Lib.hid (show SzR (T10.alloc (.cells #[I (1 - kx).num, I ((1 - kx).den : Int), I kx.num, I (kx.den : Int)] 63)) (.slice (some ⟨T10.heap.size, 0, none⟩) 2 2) [1 - kx, kx] from sz2M (by go_simp) (by go_simp) (by go_simp) (by go_simp))
       replace HGn := Lib.hid (HGn.out.ext ((Ext.refl _).alloc (.cells #[I (1 - kx).num, I ((1 - kx).den : Int), I kx.num, I (kx.den : Int)] 63)))
       refine hK0 _ _ t11 ?_
       clear hK0
       generalize hT11 : T10.alloc (.cells #[I (1 - kx).num, I ((1 - kx).den : Int), I kx.num, I (kx.den : Int)] 63) = T11 at *
       clear hT11
       refine wpAnyLH_oneI (i := 22) rfl (by kernel_rfl) inv (fun inv K0 hK0 => ?_)
       go_simp
       refine (Hcm.out _ _ _ t11 HGn.out HSz.out).mono ?_
       rintro e V3 ⟨⟨gq, rfl, hO⟩, hG3⟩
       have d2 := t11.trans hG3
       have Hq := Lib.hid (Same24_any (HsB.out.ext d2) (by have := hO.val.read; rwa [cmbQ_length] at this) (by rw [cmbQ_length]; omega))
       rw [decide_eq_true rfl] at Hq
       refine hK0 _ _ d2 ?_
       clear hK0 hO
       refine wpAnyLH_oneI (i := 23) rfl (by kernel_rfl) inv (fun inv K0 hK0 => ?_)
       go_simp
       refine Hq.out.mono ?_
       rintro e V4 ⟨rfl, hG4⟩
       have d3 := d2.trans hG4
       refine hK0 _ _ d3 ?_
       clear hK0
       refine wpAnyLH_end (by kernel_rfl) ?_
       have d9 := hE.trans d3
       clear inv d0 d2 d3 hG3 hG4 Hcm Hq HGn HSz HsA HsB HsD
       go_wp2_with fail
       go_roundw
       case rel => exact ⟨i + 1, by omega, by go_num, d9⟩
       case measure => simp [intOf] <;> omega
      ·go_simp
       have t12 : Ext V (T9.alloc (.cells #[I (1 - kx).num, I ((1 - kx).den : Int), I kx.num, I (kx.den : Int)] 63)) := t9.alloc (.cells #[I (1 - kx).num, I ((1 - kx).den : Int), I kx.num, I (kx.den : Int)] 63)
       have HSz := Lib.hid (show SzR (T9.alloc (.cells #[I (1 - kx).num, I ((1 - kx).den : Int), I kx.num, I (kx.den : Int)] 63)) (.slice (some ⟨T9.heap.size, 0, none⟩) 2 2) [1 - kx, kx] from sz2M (by go_simp) (by go_simp) (by go_simp) (by go_simp))
       refine hK0 _ _ t12 ?_
       clear hK0
       generalize hT12 : T9.alloc (.cells #[I (1 - kx).num, I ((1 - kx).den : Int), I kx.num, I (kx.den : Int)] 63) = T12 at *
       clear hT12
       refine wpAnyLH_oneI (i := 15) rfl (by kernel_rfl) inv (fun inv K0 hK0 => ?_)
       go_simp
       have t13 : Ext V (T12.alloc (.cells #[.slice xa P.length xc, .slice wa P.length wc] 52)) := t12.alloc (.cells #[.slice xa P.length xc, .slice wa P.length wc] 52)
       have HGn := Lib.hid (show GnR (T12.alloc (.cells #[.slice xa P.length xc, .slice wa P.length wc] 52)) (.slice (some ⟨T12.heap.size, 0, none⟩) 2 2) [l, q] from gn2N (by go_simp) (by go_simp) (HsA.out.ext t13) (HsD.out.ext t13))
       replace HSz := Lib.hid (HSz.out.ext ((Ext.refl _).alloc (.cells #[.slice xa P.length xc, .slice wa P.length wc] 52)))
       refine hK0 _ _ t13 ?_
       clear hK0
       generalize hT13 : T12.alloc (.cells #[.slice xa P.length xc, .slice wa P.length wc] 52) = T13 at *
       clear hT13
       refine wpAnyLH_oneI (i := 22) rfl (by kernel_rfl) inv (fun inv K0 hK0 => ?_)
       go_simp
       refine (Hcm.out _ _ _ t13 HGn.out HSz.out).mono ?_
       rintro e V3 ⟨⟨gq, rfl, hO⟩, hG3⟩
       have d2 := t13.trans hG3
       have Hq := Lib.hid (Same24_any (HsB.out.ext d2) (by have := hO.val.read; rwa [cmbQ_length] at this) (by rw [cmbQ_length]; omega))
       rw [decide_eq_true rfl] at Hq
       refine hK0 _ _ d2 ?_
       clear hK0 hO
       refine wpAnyLH_oneI (i := 23) rfl (by kernel_rfl) inv (fun inv K0 hK0 => ?_)
       go_simp
       refine Hq.out.mono ?_
       rintro e V4 ⟨rfl, hG4⟩
       have d3 := d2.trans hG4
       refine hK0 _ _ d3 ?_
       clear hK0
       refine wpAnyLH_end (by kernel_rfl) ?_
       have d9 := hE.trans d3
       clear inv d0 d2 d3 hG3 hG4 Hcm Hq HGn HSz HsA HsB HsD
       go_wp2_with fail
       go_roundw
       case rel => exact ⟨i + 1, by omega, by go_num, d9⟩
       case measure => simp [intOf] <;> omega
   ·obtain rfl : i = G.length := by omega
    have hii : ¬ (G.length : Int) < (G.length : Int) := by omega
    clear v3 hlt
    replace x0 := hE.cell x0
    replace x1 := hE.cell x1
    replace x2 := hE.cell x2
    replace x3 := hE.cell x3
    replace z0 := hE.cell z0
    replace z1 := hE.cell z1
    replace z2 := hE.cell z2
    replace z3 := hE.cell z3
    replace r0 := hE.cell r0
    replace r1 := hE.cell r1
    replace p0 := hE.cell p0
    replace p1 := hE.cell p1
    replace p2 := hE.cell p2
    replace p3 := hE.cell p3
    replace q0 := hE.cell q0
    replace q1 := hE.cell q1
    replace q2 := hE.cell q2
    replace q3 := hE.cell q3
    replace HTy := Lib.hid (HTy.out.ext hE)
    have hs2 := Lib.hid (Same18_any HTy.out.tm (HT.out.tm.ext eV))
    rw [decide_eq_true (show P = P ∧ C = C ∧ M = M from ⟨rfl, rfl, rfl⟩)] at hs2
    go_wp2_with fail
    refine hs2.out.mono ?_
    rintro e V0 ⟨rfl, hF0⟩
    have f0 := eV.trans hF0
    replace x0 := hF0.cell x0
    replace x1 := hF0.cell x1
    replace x2 := hF0.cell x2
    replace x3 := hF0.cell x3
    replace z0 := hF0.cell z0
    replace z1 := hF0.cell z1
    replace z2 := hF0.cell z2
    replace z3 := hF0.cell z3
    replace r0 := hF0.cell r0
    replace r1 := hF0.cell r1
    replace p0 := hF0.cell p0
    replace p1 := hF0.cell p1
    replace p2 := hF0.cell p2
    replace p3 := hF0.cell p3
    replace q0 := hF0.cell q0
    replace q1 := hF0.cell q1
    replace q2 := hF0.cell q2
    replace q3 := hF0.cell q3
    replace HTy := Lib.hid (HTy.out.ext hF0)
    clear hs2 hF0
    go_wp2_with fail
    have hg4 : G.length ≤ 4 := by have := HT.out.tm.m4; have := HT.out.ln; omega
    have hp4 := HT.out.tm.ok.p4
    have Hcl := Lib.hid HT.out.cl
    have Hsh := Lib.hid HT.out.sh
    obtain ⟨sg1, ga, oa, cga, va, ev, hca, hvA, hSa, hrA⟩ := HT.out.gn
    injection ev with ev1 ev2 ev3
    subst ev1 ev3
    obtain ⟨sg2, gb, ob, cgb, vb, ew', hcb, hvB, hSb, hrB⟩ := HTy.out.gn
    injection ew' with ew1 ew2 ew3
    subst ew1 ew3
    rw [strG_length] at hcb hvB
    have HA := Lib.hid hSa
    have HvA := Lib.hid hvA
    have HrA := Lib.hid hrA
    have HB := Lib.hid hSb
    have HvB := Lib.hid hvB
    have HrB := Lib.hid hrB
    have Hkq := Lib.hid (show NdQ 40 k from ⟨by have := HK.out.2.1; omega, by have := HK.out.2.2; omega⟩)
    have hr0 := r0
    have hr1 := r1
    rw [show S ka = I k.num by rw [HK.out.1.1]] at r0
    rw [show S kb = I k.den by rw [HK.out.1.2]] at r1
    clear hSa hvA hrA hSb hvB hrB hca hcb ev2 ew2 hr0 hr1
    go_loopw [17] (fun iv wr => ∃ i : Nat, i ≤ G.length ∧ iv = .int .i64 i ∧ Ext V0 wr) (fun iv _ => G.length - (intOf iv).toNat)
    case atStart => exact ⟨0, by omega, by go_num, Ext.refl _⟩
    case round =>
     obtain ⟨i, hi, rfl, hE⟩ := hrel
     generalize wr = V at *
     have eV := f0.trans hE
     have v3 := hE.cell x3
     by_cases hlt : i < G.length
     ·have hii : (i : Int) < (G.length : Int) := by omega
      have hiv : i < va.length := by rw [HvA.out]; exact hlt
      have hiw : i < vb.length := by rw [HvB.out]; exact hlt
      obtain rfl := HA.out.addr (by omega)
      obtain rfl := HB.out.addr (by omega)
      have c0 := eV.cell (HA.out.cell i _ (List.getElem?_eq_getElem hiv))
      have c1 := hE.cell (HB.out.cell i _ (List.getElem?_eq_getElem hiw))
      have hsA := (HrA.out i hlt hiv).ext eV
      have hsB := (HrB.out i (by simpa using hlt) hiw).ext hE
      have hgB : (strG G k P.length)[i]'(by simpa using hlt) = cmbQ [G[i]] [k] P.length := by simp [strG]
      rw [hgB] at hsB
      obtain ⟨xa, xc, ex⟩ := szR_slc hsA
      rw [ex, Hcl.out _ (List.getElem_mem hlt)] at c0 hsA
      obtain ⟨ya, yc, ey⟩ := szR_slc hsB
      rw [ey, cmbQ_length] at c1 hsB
      have Hsl := Lib.hid (Hsh.out _ (List.getElem_mem hlt))
      have Hcll := Lib.hid (Hcl.out _ (List.getElem_mem hlt))
      obtain ⟨l, hl⟩ : ∃ l, l = G[i] := ⟨_, rfl⟩
      rw [← hl] at hsA hsB Hsl Hcll
      have HsA := Lib.hid hsA
      have HsB := Lib.hid hsB
      have va0 := hE.cell r0
      have vb0 := hE.cell r1
      have vq3 := hE.cell q3
      have hi64 : i < 9223372036854775806 := by omega
      have Hcm := Lib.hid (fun W v fv (hW : Ext V W) (hv : GnR W v [l]) (hfv : SzR W fv [k]) => combine24_any (np := P.length) hv hfv (fun s hs => by
       simp only [List.mem_cons, List.not_mem_nil, or_false] at hs
       subst hs; exact Hcll.out) (by simp) (fun s hs => by
       simp only [List.mem_cons, List.not_mem_nil, or_false] at hs
       subst hs; exact shQ_nd Hsl.out (by omega)) (fun r hr => by
       simp only [List.mem_cons, List.not_mem_nil, or_false] at hr
       subst hr; exact Hkq.out.mono (by omega)) (by omega) (by simp) (HL.out.ext ((eX.trans eV).trans hW)))
      clear hsA hsB ex ey hl hiv hiw hlt hgB
      go_wp2_with fail
      have d0 : Ext V V.drew := (Ext.refl V).drew
      refine wp_region_held_tail (S := fun W => Ext V W) 16 (by kernel_rfl) (by simp) ?_
      intro inv
      generalize V.drew = V1 at *
      refine wpAnyLH_take (i := 0) (v := .pointer (some ⟨bq, 3, none⟩)) rfl (by kernel_rfl) (fun _ _ _ h => h) (.inl ⟨by rfl, fun W hW => by go_simp⟩) d0 inv ?_
      intro inv
      go_simp
      refine wpAnyLH_take (i := 1) (v := .slice (some ⟨gb, ob, none⟩) G.length tcg) rfl (by kernel_rfl) (fun _ _ _ h => h) (.inl ⟨by rfl, fun W hW => by have q7 := hW.cell vq3; go_simp⟩) d0 inv ?_
      intro inv
      go_simp
      refine wpAnyLH_take (i := 2) (v := .int .i64 i) rfl (by kernel_rfl) (fun _ _ _ h => h) (.inl ⟨by rfl, fun W hW => by go_simp⟩) d0 inv ?_
      intro inv
      go_simp
      refine wpAnyLH_take (i := 3) (v := .pointer (some ⟨gb, ob + i, none⟩)) rfl (by kernel_rfl) (fun _ _ _ h => h) (.inl ⟨by rfl, fun W hW => by go_simp⟩) d0 inv ?_
      intro inv
      go_simp
      refine wpAnyLH_take (i := 4) (v := .slice ya P.length yc) rfl (by kernel_rfl) (fun _ _ _ h => h) (.inl ⟨by rfl, fun W hW => by have q7 := hW.cell c1; go_simp⟩) d0 inv ?_
      intro inv
      go_simp
      refine wpAnyLH_take (i := 5) (v := .pointer (some ⟨b5, 3, none⟩)) rfl (by kernel_rfl) (fun _ _ _ h => h) (.inl ⟨by rfl, fun W hW => by go_simp⟩) d0 inv ?_
      intro inv
      go_simp
      refine wpAnyLH_take (i := 6) (v := .slice (some ⟨ga, oa, none⟩) G.length cg) rfl (by kernel_rfl) (fun _ _ _ h => h) (.inl ⟨by rfl, fun W hW => by have q7 := hW.cell v3; go_simp⟩) d0 inv ?_
      intro inv
      go_simp
      refine wpAnyLH_take (i := 7) (v := .int .i64 i) rfl (by kernel_rfl) (fun _ _ _ h => h) (.inl ⟨by rfl, fun W hW => by go_simp⟩) d0 inv ?_
      intro inv
      go_simp
      refine wpAnyLH_take (i := 8) (v := .pointer (some ⟨ga, oa + i, none⟩)) rfl (by kernel_rfl) (fun _ _ _ h => h) (.inl ⟨by rfl, fun W hW => by go_simp⟩) d0 inv ?_
      intro inv
      go_simp
      refine wpAnyLH_take (i := 9) (v := .slice xa P.length xc) rfl (by kernel_rfl) (fun _ _ _ h => h) (.inl ⟨by rfl, fun W hW => by have q7 := hW.cell c0; go_simp⟩) d0 inv ?_
      intro inv
      go_simp
      refine wpAnyLH_take (i := 11) (v := .agg #[I k.num, I (k.den : Int)]) rfl (by kernel_rfl) (fun _ _ _ h => h) (.inl ⟨by rfl, fun W hW => by have q7 := hW.cell va0; have q8 := hW.cell vb0; go_simp⟩) d0 inv ?_
      intro inv
      go_simp
      refine wpAnyLH_take (i := 13) (v := .int .i64 P.length) rfl (by kernel_rfl) (fun _ _ _ h => h) (.inl ⟨by rfl, fun W hW => by go_simp⟩) d0 inv ?_
      intro inv
      go_simp
      refine wpAnyLH_twoII (i := 10) (j := 12) rfl rfl (by kernel_rfl) inv (fun inv K0 hK0 => ?_) (fun inv K0 hK0 => ?_)
      ·go_simp
       refine hK0 _ _ (d0.alloc (.cells #[.slice xa P.length xc] 52)) ?_
       clear hK0
       refine wpAnyLH_oneI (i := 12) rfl (by kernel_rfl) inv (fun inv K0 hK0 => ?_)
       go_simp
       have d1 : Ext V ((V1.alloc (.cells #[.slice xa P.length xc] 52)).alloc (.cells #[I k.num, I (k.den : Int)] 63)) := (d0.alloc (.cells #[.slice xa P.length xc] 52)).alloc (.cells #[I k.num, I (k.den : Int)] 63)
       have HGn := Lib.hid (show GnR ((V1.alloc (.cells #[.slice xa P.length xc] 52)).alloc (.cells #[I k.num, I (k.den : Int)] 63)) (.slice (some ⟨V1.heap.size, 0, none⟩) 1 1) [l] from gn1N (by go_simp) (HsA.out.ext d1))
       have HSz := Lib.hid (show SzR ((V1.alloc (.cells #[.slice xa P.length xc] 52)).alloc (.cells #[I k.num, I (k.den : Int)] 63)) (.slice (some ⟨V1.heap.size + 1, 0, none⟩) 1 1) [k] from sz1N (by go_simp) (by go_simp))
       refine hK0 _ _ d1 ?_
       clear hK0
       generalize hW2 : World.alloc (World.alloc V1 _) _ = W2 at *
       clear hW2
       refine wpAnyLH_oneI (i := 14) rfl (by kernel_rfl) inv (fun inv K0 hK0 => ?_)
       go_simp
       refine (Hcm.out _ _ _ d1 HGn.out HSz.out).mono ?_
       rintro e V3 ⟨⟨gq, rfl, hO⟩, hG3⟩
       have d2 := d1.trans hG3
       have Hq := Lib.hid (Same24_any (HsB.out.ext d2) (by have := hO.val.read; rwa [cmbQ_length] at this) (by rw [cmbQ_length]; omega))
       rw [decide_eq_true rfl] at Hq
       refine hK0 _ _ d2 ?_
       clear hK0 hO
       refine wpAnyLH_oneI (i := 15) rfl (by kernel_rfl) inv (fun inv K0 hK0 => ?_)
       go_simp
       refine Hq.out.mono ?_
       rintro e V4 ⟨rfl, hG4⟩
       have d3 := d2.trans hG4
       refine hK0 _ _ d3 ?_
       clear hK0
       refine wpAnyLH_end (by kernel_rfl) ?_
       have d9 := hE.trans d3
       clear inv d0 d1 d2 d3 hG3 hG4 Hcm Hq HGn HSz HsA HsB
       go_wp2_with fail
       go_roundw
       case rel => exact ⟨i + 1, by omega, by go_num, d9⟩
       case measure => simp [intOf] <;> omega
      ·go_simp
       refine hK0 _ _ (d0.alloc (.cells #[I k.num, I (k.den : Int)] 63)) ?_
       clear hK0
       refine wpAnyLH_oneI (i := 10) rfl (by kernel_rfl) inv (fun inv K0 hK0 => ?_)
       go_simp
       have d1 : Ext V ((V1.alloc (.cells #[I k.num, I (k.den : Int)] 63)).alloc (.cells #[.slice xa P.length xc] 52)) := (d0.alloc (.cells #[I k.num, I (k.den : Int)] 63)).alloc (.cells #[.slice xa P.length xc] 52)
       have HGn := Lib.hid (show GnR ((V1.alloc (.cells #[I k.num, I (k.den : Int)] 63)).alloc (.cells #[.slice xa P.length xc] 52)) (.slice (some ⟨V1.heap.size + 1, 0, none⟩) 1 1) [l] from gn1N (by go_simp) (HsA.out.ext d1))
       have HSz := Lib.hid (show SzR ((V1.alloc (.cells #[I k.num, I (k.den : Int)] 63)).alloc (.cells #[.slice xa P.length xc] 52)) (.slice (some ⟨V1.heap.size, 0, none⟩) 1 1) [k] from sz1N (by go_simp) (by go_simp))
       refine hK0 _ _ d1 ?_
       clear hK0
       generalize hW2 : World.alloc (World.alloc V1 _) _ = W2 at *
       clear hW2
       refine wpAnyLH_oneI (i := 14) rfl (by kernel_rfl) inv (fun inv K0 hK0 => ?_)
       go_simp
       refine (Hcm.out _ _ _ d1 HGn.out HSz.out).mono ?_
       rintro e V3 ⟨⟨gq, rfl, hO⟩, hG3⟩
       have d2 := d1.trans hG3
       have Hq := Lib.hid (Same24_any (HsB.out.ext d2) (by have := hO.val.read; rwa [cmbQ_length] at this) (by rw [cmbQ_length]; omega))
       rw [decide_eq_true rfl] at Hq
       refine hK0 _ _ d2 ?_
       clear hK0 hO
       refine wpAnyLH_oneI (i := 15) rfl (by kernel_rfl) inv (fun inv K0 hK0 => ?_)
       go_simp
       refine Hq.out.mono ?_
       rintro e V4 ⟨rfl, hG4⟩
       have d3 := d2.trans hG4
       refine hK0 _ _ d3 ?_
       clear hK0
       refine wpAnyLH_end (by kernel_rfl) ?_
       have d9 := hE.trans d3
       clear inv d0 d1 d2 d3 hG3 hG4 Hcm Hq HGn HSz HsA HsB
       go_wp2_with fail
       go_roundw
       case rel => exact ⟨i + 1, by omega, by go_num, d9⟩
       case measure => simp [intOf] <;> omega
     ·obtain rfl : i = G.length := by omega
      have hii : ¬ (G.length : Int) < (G.length : Int) := by omega
      go_wp2_with fail
      go_ret
      exact ⟨rfl, eX.trans eV⟩
end Go.Proofs.YtedlgnoiojcjaaaGreatDoor
