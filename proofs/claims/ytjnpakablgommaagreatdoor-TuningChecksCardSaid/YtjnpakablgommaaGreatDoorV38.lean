/- Part 38 of the proof of the claim: contracts of the functions that it reaches, and plain laws; no condition. -/
import Derived.Test.YtjnpakablgommaaGreatDoorV34
import Derived.Test.YtjnpakablgommaaGreatDoorV35
import Derived.Test.YtjnpakablgommaaGreatDoorV37
import Derived.BigFrame
import Derived.Laws.Rows
import Derived.Test.YtjnpakablgommaaGreatDoorV02
import Derived.Test.YtjnpakablgommaaGreatDoorV14
import Derived.Test.YtjnpakablgommaaGreatDoorRows
import Derived.ProofKit
import Derived.LaidMore
import Derived.OpenShut
import Derived.Stop.Joined
import Derived.Stop.LaidErr
import Derived.Lib.LaidTab
import Derived.Deep.Matrix
import Derived.Test.YtjnpakablgommaaGreatDoorV16
import Derived.Test.YtjnpakablgommaaGreatDoorV26
set_option maxRecDepth 100000
namespace Go.Proofs.YtjnpakablgommaaGreatDoor
open Go.RowKit Go.Sort
theorem spoil_any {w : World} {P : List Int} {C M : Mx} {G : List (List Rat)} {sp : Option Addr} {cp : Nat} {sc : Option Addr} {lc cc : Nat} {sm : Option Addr} {lm cm : Nat} {sg : Option Addr} {lg cg : Nat} {hw : Int} {ss : Option Addr} {cs : Nat} {L : List (List UInt8 × List UInt8)} (h : TuV w P C M G sp cp sc lc cc sm lm cm sg lg cg) (hh : 0 ≤ hw ∧ hw < 256) (hs : SzT w (.slice ss L.length cs) L) (hb : ∀ p ∈ L, p.1.length ≤ 1000000 ∧ p.2.length ≤ 1000000) (hL : Laid w) :
  Calls Tryz.prog 25 #[tuS P sp cp sc lc cc sm lm cm sg lg cg, .agg #[.int .u8 hw, .slice ss L.length cs]] w (SpoPost w (.slice ss L.length cs) L) := by
 rcases (show hw % 6 = 0 ∨ hw % 6 = 1 ∨ hw % 6 = 2 ∨ hw % 6 = 3 ∨ hw % 6 = 4 ∨ hw % 6 = 5 by omega) with h6 | h6 | h6 | h6 | h6 | h6
 ·exact spl0 h h6 hh hs hb hL
 ·exact spl1 h h6 hh hs hb hL
 ·exact spl2 h h6 hh hs hb hL
 ·exact spl3 h h6 hh hs hb hL
 ·exact spl4 h h6 hh hs hb hL
 ·exact spl5 h h6 hh hs hb hL
def tcG (B0 : Nat) (cs : Array Value) (b : Int) (A B : Nat → Nat → Int) (hw : Int) (sz : Value) (L : List (List UInt8 × List UInt8)) : Nat → Value → World → Prop
 | 0, v, _ => v = .agg cs
 | 1, v, w => ∃ C M, TuR w v (prL b) C M (mkG A B (prL b).length M.length)
 | 2, v, _ => v = .agg #[.int .u8 hw, sz]
 | 3, v, w => ∃ sp np cp sc lc cc sm lm cm sg lg cg z, v = .agg #[.slice sp np cp, .slice sc lc cc, .slice sm lm cm, .slice sg lg cg] ∧ ∃ w1 w1', Ext w1 w ∧ Ext w1' w ∧ ∀ w2, Nr w1' w2 → Kp w1 w2 → SzT w2 sz L → Laid w2 → CkA w2 (.agg #[.slice sp np cp, .slice sc lc cc, .slice sm lm cm, .slice sg lg cg]) z
 | _, v, w => ∃ bb, v = .pointer (some ⟨bb, 0, none⟩) ∧ B0 ≤ bb ∧ OwnV 67 0 w bb 4 [.slice none 0 0, .slice none 0 0, .slice none 0 0, .slice none 0 0]
theorem tcG_ext {B0 : Nat} {cs : Array Value} {b : Int} {A B : Nat → Nat → Int} {hw : Int} {sz : Value} {L : List (List UInt8 × List UInt8)} (j : Nat) (v : Value) (w w' : World) (h : tcG B0 cs b A B hw sz L j v w) (hE : Ext w w') : tcG B0 cs b A B hw sz L j v w' := by
 unfold tcG at h ⊢
 split at h
 ·exact h
 ·obtain ⟨C, M, h⟩ := h; exact ⟨C, M, h.ext hE⟩
 ·exact h
 ·obtain ⟨sp, np, cp, sc, lc, cc, sm, lm, cm, sg, lg, cg, z, e, w1, w1', h1, h2, h3⟩ := h
  exact ⟨sp, np, cp, sc, lc, cc, sm, lm, cm, sg, lg, cg, z, e, w1, w1', h1.trans hE, h2.trans hE, h3⟩
 ·obtain ⟨bb, h1, h2, h3⟩ := h; exact ⟨bb, h1, h2, h3.ext hE⟩
def tcD (j : Nat) : Nat := if j < 4 then 38 + j else 5
set_option maxHeartbeats 16000000 in
theorem tck_walk {w : World} {b : Int} {rv : Value} {Z : List (List Int)} {vals : Bool} {A B : Nat → Nat → Int} (hb : 0 ≤ b ∧ b ≤ 255) (hR : RowsA w rv Z) (hB : ∀ i t, 0 ≤ B i t ∧ B i t ≤ 255) {hw : Int} (hh : 0 ≤ hw ∧ hw ≤ 255) {sv : Value} {L : List (List UInt8 × List UInt8)} (hs : SzT w sv L) (hl64 : L.length ≤ 9223372036854775807) (hL : Laid w) :
  Calls Tryz.prog 4 #[planT b rv vals A B, .agg #[.int .u8 hw, sv]] w fun e w' => e = .returned (.bool true) ∧ Ext w w' := by
 have hkn := Lib.hid (fun W (hW : Ext w W) => known24_any (hL.ext hW))
 have hft := Lib.hid (fun W (hW : Ext w W) => fits24_any (b := b) (vals := vals) (A := A) (B := B) (hR.ext hW))
 have hmk := Lib.hid (fun W (hW : Ext w W) (h3 : Z.length ≤ 3) => make24_any (vals := vals) (A := A) hb (hR.ext hW) h3 hB (hL.ext hW))
 have HL := Lib.hid hL
 have Hlg := Lib.hid (fun W (hW : Ext w W) => long_any (hs.ext hW) hl64)
 obtain ⟨sva, svc, rfl⟩ := szc_slice hs
 have Hs := Lib.hid hs
 have Hh := Lib.hid hh
 obtain ⟨cs, hcs⟩ : ∃ cs, Value.agg cs = planT b rv vals A B := ⟨_, rfl⟩
 have hsz : cs.size = 35 := by
  injection hcs with h
  rw [h]; rfl
 have hinf : (Tryz.prog.info? 58).map (·.size) = some cs.size := by rw [hsz]; kernel_rfl
 have hinf2 : (Tryz.prog.info? 62).map (·.size) = some (#[.int .u8 hw, .slice sva L.length svc] : Array Value).size := by kernel_rfl
 simp only [← hcs] at hft hmk ⊢
 clear hcs hsz hb hR hB hL hs hh hl64
 have hX := ((Ext.refl w).alloc (.cells cs 58)).alloc (.cells #[.int .u8 hw, .slice sva L.length svc] 62)
 have hg : ((w.alloc (.cells cs 58)).alloc (.cells #[.int .u8 hw, .slice sva L.length svc] 62)).heap[w.heap.size]? = some (.cells cs 58 (0, 0)) := by
  have hA : Ext (w.alloc (.cells cs 58)) ((w.alloc (.cells cs 58)).alloc (.cells #[.int .u8 hw, .slice sva L.length svc] 62)) := (Ext.refl _).alloc _
  exact (hA.block _ (by simp)).trans (heap_alloc_new _ _)
 have hg' : ((w.alloc (.cells cs 58)).alloc (.cells #[.int .u8 hw, .slice sva L.length svc] 62)).heap[w.heap.size + 1]? = some (.cells #[.int .u8 hw, .slice sva L.length svc] 62 (0, 0)) := by
  have := heap_alloc_new (w.alloc (.cells cs 58)) (.cells #[.int .u8 hw, .slice sva L.length svc] 62)
  rw [show (w.alloc (.cells cs 58)).heap.size = w.heap.size + 1 by simp] at this
  exact this
 have y1 : ((w.alloc (.cells cs 58)).alloc (.cells #[.int .u8 hw, .slice sva L.length svc] 62)).cell? ⟨w.heap.size + 1, 1, none⟩ = some (.slice sva L.length svc) := by go_simp
 by_cases hz3 : Z.length ≤ 3
 case neg =>
  simp only [decide_eq_false hz3] at hft
  clear hz3
  go_enter Tryz.func4, Tryz.ntmps4
  go_wp2_with fail
  refine (hkn.out _ hX).mono ?_
  rintro e W1 ⟨rfl, hE1⟩
  have hg1 := (hE1.block _ (Array.getElem?_eq_some_iff.1 hg).1).trans hg
  have hg1' := (hE1.block _ (Array.getElem?_eq_some_iff.1 hg').1).trans hg'
  replace y1 := hE1.cell y1
  have e1 := hX.trans hE1
  clear hg hg' hE1
  go_wp2_with (refine BigFrame.wpList_want (by rfl) fun K hK => wp_load_row 58 _ rfl w.heap.size rfl 58 cs (0, 0) _ hg1 Tryz.underlying58 rfl hinf (hK _ _ ?_))
  refine (hft.out _ e1).mono ?_
  rintro e W2 ⟨rfl, hE2⟩
  have hg2 := (hE2.block _ (Array.getElem?_eq_some_iff.1 hg1).1).trans hg1
  have hg2' := (hE2.block _ (Array.getElem?_eq_some_iff.1 hg1').1).trans hg1'
  replace y1 := hE2.cell y1
  have e2 := e1.trans hE2
  clear hg1 hg1' hE2 hft
  go_wp2_with fail
  refine (hkn.out _ e2).mono ?_
  rintro e W9 ⟨rfl, hE9⟩
  go_wp2_with fail
  go_ret
  exact ⟨rfl, Ext.trans e2 hE9⟩
 simp only [decide_eq_true hz3] at hft
 have Hz3 := Lib.hid hz3
 clear hz3
 by_cases hlb : longB L = true
 case pos =>
  rw [hlb] at Hlg
  clear hlb
  go_enter Tryz.func4, Tryz.ntmps4
  go_wp2_with fail
  refine (hkn.out _ hX).mono ?_
  rintro e W1 ⟨rfl, hE1⟩
  have hg1 := (hE1.block _ (Array.getElem?_eq_some_iff.1 hg).1).trans hg
  have hg1' := (hE1.block _ (Array.getElem?_eq_some_iff.1 hg').1).trans hg'
  replace y1 := hE1.cell y1
  have e1 := hX.trans hE1
  clear hg hg' hE1
  go_wp2_with (refine BigFrame.wpList_want (by rfl) fun K hK => wp_load_row 58 _ rfl w.heap.size rfl 58 cs (0, 0) _ hg1 Tryz.underlying58 rfl hinf (hK _ _ ?_))
  refine (hft.out _ e1).mono ?_
  rintro e W2 ⟨rfl, hE2⟩
  have hg2 := (hE2.block _ (Array.getElem?_eq_some_iff.1 hg1).1).trans hg1
  have hg2' := (hE2.block _ (Array.getElem?_eq_some_iff.1 hg1').1).trans hg1'
  replace y1 := hE2.cell y1
  have e2 := e1.trans hE2
  clear hg1 hg1' hE2 hft
  go_wp2_with fail
  refine (Hlg.out _ e2).mono ?_
  rintro e W3 ⟨rfl, hE3⟩
  have e3 := e2.trans hE3
  go_wp2_with fail
  refine (hkn.out _ e3).mono ?_
  rintro e W9 ⟨rfl, hE9⟩
  go_wp2_with fail
  go_ret
  exact ⟨rfl, Ext.trans e3 hE9⟩
 have hlb2 : longB L = false := by simpa using hlb
 rw [hlb2] at Hlg
 have Hb40 := Lib.hid (longB_no hlb2).1
 clear hlb hlb2
 go_enter Tryz.func4, Tryz.ntmps4
 go_wp2_with fail
 refine (hkn.out _ hX).mono ?_
 rintro e W1 ⟨rfl, hE1⟩
 have hg1 := (hE1.block _ (Array.getElem?_eq_some_iff.1 hg).1).trans hg
 have hg1' := (hE1.block _ (Array.getElem?_eq_some_iff.1 hg').1).trans hg'
 replace y1 := hE1.cell y1
 have e1 := hX.trans hE1
 clear hg hg' hE1
 go_wp2_with (refine BigFrame.wpList_want (by rfl) fun K hK => wp_load_row 58 _ rfl w.heap.size rfl 58 cs (0, 0) _ hg1 Tryz.underlying58 rfl hinf (hK _ _ ?_))
 refine (hft.out _ e1).mono ?_
 rintro e W2 ⟨rfl, hE2⟩
 have hg2 := (hE2.block _ (Array.getElem?_eq_some_iff.1 hg1).1).trans hg1
 have hg2' := (hE2.block _ (Array.getElem?_eq_some_iff.1 hg1').1).trans hg1'
 replace y1 := hE2.cell y1
 have e2 := e1.trans hE2
 clear hg1 hg1' hE2 hft
 go_wp2_with fail
 refine (Hlg.out _ e2).mono ?_
 rintro e W3 ⟨rfl, hE3⟩
 have hg3 := (hE3.block _ (Array.getElem?_eq_some_iff.1 hg2).1).trans hg2
 have hg3' := (hE3.block _ (Array.getElem?_eq_some_iff.1 hg2').1).trans hg2'
 have e3 := e2.trans hE3
 clear hg2 hg2' hE3 hkn Hlg e2 e1 hX y1
 have Hb6 := Lib.hid (fun p (hp : p ∈ L) => show p.1.length ≤ 1000000 ∧ p.2.length ≤ 1000000 by have := Hb40.out p hp; omega)
 have Hsp := Lib.hid (fun W v C M (hW : Ext w W) (hT : TuR W v (prL b) C M (mkG A B (prL b).length M.length)) => show Calls Tryz.prog 25 #[v, .agg #[.int .u8 hw, .slice sva L.length svc]] W (SpoPost W (.slice sva L.length svc) L) by
  obtain ⟨sp, cp, sc, lc, cc, sm, lm, cm, sg, lg, cg, rfl, hT⟩ := hT
  exact spoil_any hT (by have := Hh.out; omega) (Hs.out.ext hW) Hb6.out (HL.out.ext hW))
 go_wp2_with fail
 refine wp_region_held_tail (S := fun W => Ext W3 W) 5 (by kernel_rfl) (by simp) ?_
 intro inv
 have d9 : Ext W3 W3.drew := (Ext.refl W3).drew
 refine wpAnyLH_inv (D := tcD) (G := tcG W3.heap.size cs b A B hw (.slice sva L.length svc) L) (fun i j hi hj h => by unfold tcD at h; split at h <;> split at h <;> omega) (fun i hi => by unfold tcD; simp; split <;> omega) ?_ (by kernel_rfl) (by kernel_rfl) (by simp) tcG_ext ?_ ?_ 5 _ _ _ (unl_all 5 6 (by omega)) inv d9 (Frm.refl _ _ _) (fun j _ h => by rw [getD_replicate_false] at h; cases h)
 ·intro i hi o ho e he hb
  rcases (show i = 0 ∨ i = 1 ∨ i = 2 ∨ i = 3 ∨ i = 4 by omega) with rfl | rfl | rfl | rfl | rfl <;> (obtain rfl := Option.some.inj ho; simp at he <;> (try rcases he with rfl | rfl | rfl) <;> (try subst he) <;> simp)
 ·intro i hi o ho a W hS hF hd
  have hBs := hS.size
  rcases (show i = 0 ∨ i = 1 ∨ i = 2 ∨ i = 3 ∨ i = 4 by omega) with rfl | rfl | rfl | rfl | rfl
  ·obtain rfl := Option.some.inj ho
   refine wpOp_step rfl (fun K hK => ?_)
   have t2 : a.eval (.tmp 2) = .pointer (some ⟨w.heap.size, 0, none⟩) := by rw [ev_tmp, hF.other 2 (fun j _ => by unfold tcD; split <;> omega)]; rfl
   have hgW := (hS.block _ (Array.getElem?_eq_some_iff.1 hg3).1).trans hg3
   rw [if_pos (by simp [Region.wanted])]
   exact wp_load_row 58 _ rfl w.heap.size t2 58 cs (0, 0) _ hgW Tryz.underlying58 rfl hinf (hK _ _ ⟨hS, Ext.refl W, _, rfl, rfl⟩)
  ·obtain rfl := Option.some.inj ho
   refine wpOp_step rfl (fun K hK => ?_)
   have h0 := hd ⟨0, .data⟩ (by simp) rfl
   have t38 : a.tmps[38]?.getD undef = .agg cs := (ev_tmp a 38).symm.trans h0
   clear hd ho h0
   go_simp
   refine (hmk.out _ (e3.trans hS) Hz3.out).mono ?_
   rintro e W5 ⟨t, C, M, rfl, hT, hE5⟩
   refine hK _ _ ⟨hS.trans hE5, hE5, _, rfl, ⟨C, M, hT⟩⟩
  ·obtain rfl := Option.some.inj ho
   refine wpOp_step rfl (fun K hK => ?_)
   have t3 : a.eval (.tmp 3) = .pointer (some ⟨w.heap.size + 1, 0, none⟩) := by rw [ev_tmp, hF.other 3 (fun j _ => by unfold tcD; split <;> omega)]; rfl
   have hgW := (hS.block _ (Array.getElem?_eq_some_iff.1 hg3').1).trans hg3'
   rw [if_pos (by simp [Region.wanted])]
   exact wp_load_row 62 _ rfl (w.heap.size + 1) t3 62 #[.int .u8 hw, .slice sva L.length svc] (0, 0) _ hgW Tryz.underlying62 rfl hinf2 (hK _ _ ⟨hS, Ext.refl W, _, rfl, rfl⟩)
  ·obtain rfl := Option.some.inj ho
   refine wpOp_step rfl (fun K hK => ?_)
   obtain ⟨C, M, hT⟩ := hd ⟨1, .data⟩ (by simp) rfl
   have h2 := hd ⟨2, .data⟩ (by simp) rfl
   have hsp := Lib.hid (Hsp.out _ _ _ _ (e3.trans hS) hT)
   obtain ⟨v39, hv39⟩ : ∃ v, v = a.eval (.tmp (tcD 1)) := ⟨_, rfl⟩
   rw [← hv39] at hsp
   have t39 : a.tmps[39]?.getD undef = v39 := (ev_tmp a 39).symm.trans hv39.symm
   have t40 : a.tmps[40]?.getD undef = .agg #[.int .u8 hw, .slice sva L.length svc] := (ev_tmp a 40).symm.trans h2
   clear hd ho h2 hT hv39
   go_simp
   refine hsp.out.mono ?_
   rintro e W5 ⟨sp, np, cp, sc, lc, cc, sm, lm, cm, sg, lg, cg, z, rfl, hck, hE5⟩
   refine hK _ _ ⟨hS.trans hE5, hE5, _, rfl, ⟨sp, np, cp, sc, lc, cc, sm, lm, cm, sg, lg, cg, z, rfl, W, W5, hE5, Ext.refl _, hck⟩⟩
  ·obtain rfl := Option.some.inj ho
   refine wpOp_step rfl (fun K hK => ?_)
   clear hd ho
   go_simp
   refine hK _ _ ⟨hS.alloc _, (Ext.refl W).alloc _, _, rfl, ⟨W.heap.size, rfl, hBs, (own4 W _ _ _ _ _).mono (by omega)⟩⟩
 intro listed a W inv hall hS hF hGa
 obtain ⟨sp, np, cp, sc, lc, cc, sm, lm, cm, sg, lg, cg, z, hv, w1, w1', q1, q2, q3⟩ := hGa 3 (by omega)
 obtain ⟨CC, MM, hT0⟩ := hGa 1 (by omega)
 obtain ⟨b5, h5, h5b, hO5⟩ := hGa 4 (by omega)
 refine ⟨by rw [listed_eq inv hall]; kernel_rfl, ?_⟩
 have haE := hF.eq (fun i j hi hj h => by unfold tcD at h; split at h <;> split at h <;> omega) (fun i hi => by unfold tcD; simp; split <;> omega)
 have E0 : a.eval (.tmp 38) = .agg cs := hGa 0 (by omega)
 obtain ⟨v39, hv39⟩ : ∃ v, v = a.eval (.tmp 39) := ⟨_, rfl⟩
 have E1 : a.eval (.tmp 39) = v39 := hv39.symm
 have E2 : a.eval (.tmp 40) = .agg #[.int .u8 hw, .slice sva L.length svc] := hGa 2 (by omega)
 have E3 : a.eval (.tmp 41) = .agg #[.slice sp np cp, .slice sc lc cc, .slice sm lm cm, .slice sg lg cg] := hv
 have E4 : a.eval (.tmp 5) = .pointer (some ⟨b5, 0, none⟩) := h5
 rw [haE]
 clear haE
 simp only [putAll, E0, E1, E2, E3, E4, show tcD 0 = 38 from rfl, show tcD 1 = 39 from rfl, show tcD 2 = 40 from rfl, show tcD 3 = 41 from rfl, show tcD 4 = 5 from rfl, List.drop_succ_cons, List.drop_zero]
 go_simp
 obtain ⟨Hr5, He5, Hg5⟩ := set4 hS h5b hO5 (.slice sp np cp) (.slice sc lc cc) (.slice sm lm cm) (.slice sg lg cg)
 have m0 := hO5.cell (j := 0) (by simp)
 have m1 := hO5.cell (j := 1) (by simp)
 have m2 := hO5.cell (j := 2) (by simp)
 have m3 := hO5.cell (j := 3) (by simp)
 have f0 := hO5.frozen 0
 have f1 := hO5.frozen 1
 have f2 := hO5.frozen 2
 have f3 := hO5.frozen 3
 simp only [List.getElem_cons_zero, List.getElem_cons_succ] at m0 m1 m2 m3
 have HF := Lib.hid (And.intro Hr5 (And.intro He5 (q3 _ ⟨W, q2, .inr ⟨b5, hO5, Hg5⟩⟩ (Kp.of q1 hO5 Hg5) (Hs.out.ext (e3.trans He5)) (HL.out.ext (e3.trans He5)))))
 clear hGa E0 E1 E2 E3 E4 h5 hv hv39 hT0 hF hall inv Hr5 He5 Hg5 hO5 q1 q2 q3 d9 hS
 go_upto_region 4 with fail
 obtain ⟨hr5, heF, hck⟩ := HF.out
 clear HF m0 m1 m2 m3 f0 f1 f2 f3 hmk hg3 hg3' hinf hinf2 Hsp h5b
 generalize ((((W.setCell ⟨b5, 0, none⟩ (.slice sp np cp)).setCell ⟨b5, 1, none⟩ (.slice sc lc cc)).setCell ⟨b5, 2, none⟩ (.slice sm lm cm)).setCell ⟨b5, 3, none⟩ (.slice sg lg cg)) = X at *
 have eX := e3.trans heF
 have x0 := hr5.cell (j := 0) (by simp)
 have x1 := hr5.cell (j := 1) (by simp)
 have x2 := hr5.cell (j := 2) (by simp)
 have x3 := hr5.cell (j := 3) (by simp)
 simp only [List.getElem_cons_zero, List.getElem_cons_succ] at x0 x1 x2 x3
 have Hck := Lib.hid hck
 clear hr5 heF hck e3 Hb6 Hb40 Hs HL Hh Hz3
 go_wp2_with fail
 refine ((Hck.out _ (Ext.refl _)).2).mono ?_
 rintro e Y ⟨rfl, eY⟩
 replace x0 := eY.cell x0
 replace x1 := eY.cell x1
 replace x2 := eY.cell x2
 replace x3 := eY.cell x3
 go_wp2_with fail
 refine ((Hck.out _ eY).1).mono ?_
 rintro e Y2 ⟨rfl, hE⟩
 replace x0 := hE.cell x0
 replace x1 := hE.cell x1
 replace x2 := hE.cell x2
 replace x3 := hE.cell x3
 replace eY := eY.trans hE
 clear hE
 have hzz : (z == z) = true := by simp
 have hzn : (z != z) = false := by simp
 by_cases hz : z = 0
 ·subst hz
  go_wp2_with fail
  go_ret
  exact ⟨rfl, eX.trans eY⟩
 have h2 : (z == 0) = false := beq_eq_false_iff_ne.2 hz
 have h3 : (z != 0) = true := by simp [bne, h2]
 have Hz := Lib.hid hz
 have Hk := Lib.hid (fun W (hW : Ext X W) => show ∀ W2, Ext W W2 → Calls Tryz.prog 28 #[.agg #[.slice sp np cp, .slice sc lc cc, .slice sm lm cm, .slice sg lg cg]] W2 (fun e w' => e = .returned (.int .i64 z) ∧ Ext W2 w') from fun W2 h2 => (Hck.out W2 (hW.trans h2)).1)
 clear hz Hck
 go_wp2_with fail
 refine (tuSize_err Hz.out (Hk.out _ eY)).mono ?_
 rintro e Y3 ⟨rfl, hE⟩
 replace x0 := hE.cell x0
 replace x1 := hE.cell x1
 replace x2 := hE.cell x2
 replace x3 := hE.cell x3
 replace eY := eY.trans hE
 clear hE
 go_wp2_with fail
 refine (tuOf_err Hz.out (Hk.out _ eY)).mono ?_
 rintro e Y4 ⟨rfl, hE⟩
 replace x0 := hE.cell x0
 replace x1 := hE.cell x1
 replace x2 := hE.cell x2
 replace x3 := hE.cell x3
 replace eY := eY.trans hE
 clear hE
 go_wp2_with fail
 refine (tuError_err Hz.out (Hk.out _ eY)).mono ?_
 rintro e Y5 ⟨rfl, hE⟩
 replace x0 := hE.cell x0
 replace x1 := hE.cell x1
 replace x2 := hE.cell x2
 replace x3 := hE.cell x3
 replace eY := eY.trans hE
 clear hE
 go_wp2_with fail
 refine (tuPure_err Hz.out (Hk.out _ eY)).mono ?_
 rintro e Y6 ⟨rfl, hE⟩
 replace x0 := hE.cell x0
 replace x1 := hE.cell x1
 replace x2 := hE.cell x2
 replace x3 := hE.cell x3
 replace eY := eY.trans hE
 clear hE
 go_wp2_with fail
 refine (tuPrimes_err Hz.out (Hk.out _ eY)).mono ?_
 rintro e Y7 ⟨rfl, hE⟩
 replace x0 := hE.cell x0
 replace x1 := hE.cell x1
 replace x2 := hE.cell x2
 replace x3 := hE.cell x3
 replace eY := eY.trans hE
 clear hE
 go_wp2_with fail
 refine (tuBlend_err Hz.out (Hk.out _ eY)).mono ?_
 rintro e Y8 ⟨rfl, hE⟩
 replace x0 := hE.cell x0
 replace x1 := hE.cell x1
 replace x2 := hE.cell x2
 replace x3 := hE.cell x3
 replace eY := eY.trans hE
 clear hE
 have eA := (Ext.refl Y8).alloc (.cells #[.slice none 0 0, .slice none 0 0, .slice none 0 0, .slice none 0 0] 67)
 have p0 : (Y8.alloc (.cells #[.slice none 0 0, .slice none 0 0, .slice none 0 0, .slice none 0 0] 67)).cell? ⟨Y8.heap.size, 0, none⟩ = some (.slice none 0 0) := by go_simp
 have p1 : (Y8.alloc (.cells #[.slice none 0 0, .slice none 0 0, .slice none 0 0, .slice none 0 0] 67)).cell? ⟨Y8.heap.size, 1, none⟩ = some (.slice none 0 0) := by go_simp
 have p2 : (Y8.alloc (.cells #[.slice none 0 0, .slice none 0 0, .slice none 0 0, .slice none 0 0] 67)).cell? ⟨Y8.heap.size, 2, none⟩ = some (.slice none 0 0) := by go_simp
 have p3 : (Y8.alloc (.cells #[.slice none 0 0, .slice none 0 0, .slice none 0 0, .slice none 0 0] 67)).cell? ⟨Y8.heap.size, 3, none⟩ = some (.slice none 0 0) := by go_simp
 replace x0 := eA.cell x0
 replace x1 := eA.cell x1
 replace x2 := eA.cell x2
 replace x3 := eA.cell x3
 replace eY := eY.trans eA
 clear eA
 go_wp2_with fail
 generalize Y8.alloc (.cells #[.slice none 0 0, .slice none 0 0, .slice none 0 0, .slice none 0 0] 67) = Vp at *
 generalize Y8.heap.size = bp at *
 refine (tuStretch_err Hz.out (Hk.out _ eY)).mono ?_
 rintro e Y9 ⟨rfl, hE⟩
 replace x0 := hE.cell x0
 replace x1 := hE.cell x1
 replace x2 := hE.cell x2
 replace x3 := hE.cell x3
 replace p0 := hE.cell p0
 replace p1 := hE.cell p1
 replace p2 := hE.cell p2
 replace p3 := hE.cell p3
 replace eY := eY.trans hE
 clear hE
 have eA := (Ext.refl Y9).alloc (.cells #[.slice none 0 0, .slice none 0 0, .slice none 0 0, .slice none 0 0] 67)
 have q0 : (Y9.alloc (.cells #[.slice none 0 0, .slice none 0 0, .slice none 0 0, .slice none 0 0] 67)).cell? ⟨Y9.heap.size, 0, none⟩ = some (.slice none 0 0) := by go_simp
 have q1 : (Y9.alloc (.cells #[.slice none 0 0, .slice none 0 0, .slice none 0 0, .slice none 0 0] 67)).cell? ⟨Y9.heap.size, 1, none⟩ = some (.slice none 0 0) := by go_simp
 have q2 : (Y9.alloc (.cells #[.slice none 0 0, .slice none 0 0, .slice none 0 0, .slice none 0 0] 67)).cell? ⟨Y9.heap.size, 2, none⟩ = some (.slice none 0 0) := by go_simp
 have q3 : (Y9.alloc (.cells #[.slice none 0 0, .slice none 0 0, .slice none 0 0, .slice none 0 0] 67)).cell? ⟨Y9.heap.size, 3, none⟩ = some (.slice none 0 0) := by go_simp
 replace x0 := eA.cell x0
 replace x1 := eA.cell x1
 replace x2 := eA.cell x2
 replace x3 := eA.cell x3
 replace p0 := eA.cell p0
 replace p1 := eA.cell p1
 replace p2 := eA.cell p2
 replace p3 := eA.cell p3
 replace eY := eY.trans eA
 clear eA
 go_wp2_with fail
 generalize Y9.alloc (.cells #[.slice none 0 0, .slice none 0 0, .slice none 0 0, .slice none 0 0] 67) = Vq at *
 generalize Y9.heap.size = bq at *
 refine (tuShift_err Hz.out (Hk.out _ eY)).mono ?_
 rintro e Y10 ⟨rfl, hE⟩
 replace x0 := hE.cell x0
 replace x1 := hE.cell x1
 replace x2 := hE.cell x2
 replace x3 := hE.cell x3
 replace p0 := hE.cell p0
 replace p1 := hE.cell p1
 replace p2 := hE.cell p2
 replace p3 := hE.cell p3
 replace q0 := hE.cell q0
 replace q1 := hE.cell q1
 replace q2 := hE.cell q2
 replace q3 := hE.cell q3
 replace eY := eY.trans hE
 clear hE
 have eA := (Ext.refl Y10).alloc (.cells #[.slice none 0 0, .slice none 0 0, .slice none 0 0, .slice none 0 0] 67)
 have r0 : (Y10.alloc (.cells #[.slice none 0 0, .slice none 0 0, .slice none 0 0, .slice none 0 0] 67)).cell? ⟨Y10.heap.size, 0, none⟩ = some (.slice none 0 0) := by go_simp
 have r1 : (Y10.alloc (.cells #[.slice none 0 0, .slice none 0 0, .slice none 0 0, .slice none 0 0] 67)).cell? ⟨Y10.heap.size, 1, none⟩ = some (.slice none 0 0) := by go_simp
 have r2 : (Y10.alloc (.cells #[.slice none 0 0, .slice none 0 0, .slice none 0 0, .slice none 0 0] 67)).cell? ⟨Y10.heap.size, 2, none⟩ = some (.slice none 0 0) := by go_simp
 have r3 : (Y10.alloc (.cells #[.slice none 0 0, .slice none 0 0, .slice none 0 0, .slice none 0 0] 67)).cell? ⟨Y10.heap.size, 3, none⟩ = some (.slice none 0 0) := by go_simp
 replace x0 := eA.cell x0
 replace x1 := eA.cell x1
 replace x2 := eA.cell x2
 replace x3 := eA.cell x3
 replace p0 := eA.cell p0
 replace p1 := eA.cell p1
 replace p2 := eA.cell p2
 replace p3 := eA.cell p3
 replace q0 := eA.cell q0
 replace q1 := eA.cell q1
 replace q2 := eA.cell q2
 replace q3 := eA.cell q3
 replace eY := eY.trans eA
 clear eA
 go_wp2_with fail
 generalize Y10.alloc (.cells #[.slice none 0 0, .slice none 0 0, .slice none 0 0, .slice none 0 0] 67) = Vr at *
 generalize Y10.heap.size = br at *
 refine (tuText_err Hz.out (Hk.out _ eY)).mono ?_
 rintro e Y11 ⟨rfl, hE⟩
 replace x0 := hE.cell x0
 replace x1 := hE.cell x1
 replace x2 := hE.cell x2
 replace x3 := hE.cell x3
 replace p0 := hE.cell p0
 replace p1 := hE.cell p1
 replace p2 := hE.cell p2
 replace p3 := hE.cell p3
 replace q0 := hE.cell q0
 replace q1 := hE.cell q1
 replace q2 := hE.cell q2
 replace q3 := hE.cell q3
 replace r0 := hE.cell r0
 replace r1 := hE.cell r1
 replace r2 := hE.cell r2
 replace r3 := hE.cell r3
 replace eY := eY.trans hE
 clear hE
 go_wp2_with fail
 refine blankZ_any.mono ?_
 rintro e Q0 ⟨rfl, hE⟩
 replace x0 := hE.cell x0
 replace x1 := hE.cell x1
 replace x2 := hE.cell x2
 replace x3 := hE.cell x3
 replace p0 := hE.cell p0
 replace p1 := hE.cell p1
 replace p2 := hE.cell p2
 replace p3 := hE.cell p3
 replace q0 := hE.cell q0
 replace q1 := hE.cell q1
 replace q2 := hE.cell q2
 replace q3 := hE.cell q3
 replace r0 := hE.cell r0
 replace r1 := hE.cell r1
 replace r2 := hE.cell r2
 replace r3 := hE.cell r3
 replace eY := eY.trans hE
 clear hE
 go_wp2_with fail
 refine blankZ_any.mono ?_
 rintro e Q1 ⟨rfl, hE⟩
 replace x0 := hE.cell x0
 replace x1 := hE.cell x1
 replace x2 := hE.cell x2
 replace x3 := hE.cell x3
 replace p0 := hE.cell p0
 replace p1 := hE.cell p1
 replace p2 := hE.cell p2
 replace p3 := hE.cell p3
 replace q0 := hE.cell q0
 replace q1 := hE.cell q1
 replace q2 := hE.cell q2
 replace q3 := hE.cell q3
 replace r0 := hE.cell r0
 replace r1 := hE.cell r1
 replace r2 := hE.cell r2
 replace r3 := hE.cell r3
 replace eY := eY.trans hE
 clear hE
 go_wp2_with fail
 refine blankZ_any.mono ?_
 rintro e Q2 ⟨rfl, hE⟩
 replace x0 := hE.cell x0
 replace x1 := hE.cell x1
 replace x2 := hE.cell x2
 replace x3 := hE.cell x3
 replace p0 := hE.cell p0
 replace p1 := hE.cell p1
 replace p2 := hE.cell p2
 replace p3 := hE.cell p3
 replace q0 := hE.cell q0
 replace q1 := hE.cell q1
 replace q2 := hE.cell q2
 replace q3 := hE.cell q3
 replace r0 := hE.cell r0
 replace r1 := hE.cell r1
 replace r2 := hE.cell r2
 replace r3 := hE.cell r3
 replace eY := eY.trans hE
 clear hE
 go_wp2_with fail
 go_ret
 exact ⟨rfl, eX.trans eY⟩
end Go.Proofs.YtjnpakablgommaaGreatDoor
namespace Go.Proofs.YtjnpakablgommaaGreatDoor
open Go.ChangeShapes Go.WideShapes Go.ChangeAt Go.WideMaps Go.WideElems Go.RowKit Go.Deep
theorem fr_own : ownKnob Tryz.prog.godebug = none := by kernel_rfl
theorem fr_laidOut : laidOutB Tryz.prog = true := by kernel_rfl
theorem fr_pow : Tryz.prog.globalNamed "internal/strconv.uint64pow10" = some 3 := by kernel_rfl
theorem fr_powT : (Tryz.prog.globals[3]?).map (·.type) = some 383 := by kernel_rfl
theorem fr_rng : Tryz.prog.globalNamed "strconv.ErrRange" = some 1 := by kernel_rfl
theorem fr_rngT : (Tryz.prog.globals[1]?).map (·.type) = some 211 := by kernel_rfl
theorem fr_c20 : Tryz.prog.cellsOf 383 = 20 := by kernel_rfl
theorem fr_cu : Tryz.prog.cellsOf 247 = 1 := by kernel_rfl
theorem fr_cE : Tryz.prog.cellsOf 379 = 1 := by kernel_rfl
theorem fr_cS : Tryz.prog.cellsOf 9 = 1 := by kernel_rfl
theorem fr_star : "*" ++ "errors.errorString" = "*errors.errorString" := by decide
theorem fr_ptr (u : TypeId) (h : Tryz.prog.typeName? 3 u = some "*errors.errorString") : u = 377 :=
 typeName_ptr_named (nm := "errors.errorString") (by rw [fr_star]; kernel_rfl) (by kernel_rfl) (by decide) u (by rw [fr_star]; exact h)
abbrev fr_list : List (String × DataW Unit) := [("math/bits.deBruijn32tab", Rows.laid_math_bits_deBruijn32tab), ("math/bits.deBruijn64tab", Rows.laid_math_bits_deBruijn64tab), ("internal/strconv.uint64pow10", Rows.laid_internal_strconv_uint64pow10), ("strconv.ErrRange", Rows.laid_strconv_ErrRange), ("strconv.ErrSyntax", Rows.laid_strconv_ErrSyntax)]
theorem fr_tab : (Rows.laid_internal_strconv_uint64pow10 : DataW Unit) = Lib.tabData .u64 Lib.pow10Tab := by kernel_rfl
theorem laid_of {W : World} (h : laidMetH Tryz.prog fr_list W) : Laid W := by
 rw [MakeChecks.laidMetH_plain _ _ _ (by kernel_rfl)] at h
 have h3 := h.tail.tail
 rw [fr_tab] at h3
 refine ⟨Lib.tabIs_of_head fr_pow fr_powT Tryz.underlying383 Tryz.underlying247 fr_cu fr_c20 h3, ?_⟩
 obtain ⟨a, s, hv, _⟩ := laid_sentinel h3.tail fr_rng fr_rngT Tryz.underlying211 fr_ptr Tryz.underlying377 Tryz.underlying379 rfl rfl Tryz.underlying9 fr_cE fr_cS
 exact ⟨_, _, hv⟩
theorem door_met (os : Os) (args : Array Value) : laidMetH Tryz.prog fr_list ((World.doorLaid Tryz.prog 400 os).forCall (fun _ _ => 0) ⟨#[], args, []⟩).memory :=
 laidMetH_of_parts3 (fuel := 8) (laidMet_of_run' 8 (by kernel_rfl) (by kernel_rfl)) (by kernel_rfl) (by kernel_rfl)
theorem fr_cRa : Tryz.prog.cellsOf 81 = 2 := by kernel_rfl
theorem string_S (s : ByteArray) : Value.string s = S s.data.toList := by
 obtain ⟨a⟩ := s
 show Value.string ⟨a⟩ = Value.string ⟨a.toList.toArray⟩
 simp
theorem list2x {l : List Value} {a b : Value} (hl : l.length = 2) (h0 : (l.drop 0).take 1 = [a]) (h1 : (l.drop 1).take 1 = [b]) : l = [a, b] := by
 match l, hl with
 | [p, q], _ =>
  simp at h0 h1
  subst h0 h1
  rfl
theorem cells_twox {W : World} {base : Nat} {a : Addr} {x y : Value} (h : W.cells? base a 2 = some [x, y]) : W.cell? (a.add 0) = some x ∧ W.cell? (a.add 1) = some y := by
 unfold World.cells? at h
 split at h
 case isFalse => cases h
 have h0 := Go.mapM_some_get h 0 0 (by simp)
 have h1 := Go.mapM_some_get h 1 1 (by simp)
 exact ⟨by simpa using h0, by simpa using h1⟩
theorem rat_list {H : Type} {enc : TypeId × Value → H} {W : World} {base : Nat} {sp : Nat → Bool} {held : Bool} {fuel : Nat} {cs : List Value} {x : DataW H × List MemPlace}
  (h : DataW.trod enc Tryz.prog W base sp held fuel 81 cs = some x) : ∃ a b : List UInt8, cs = [S a, S b] := by
 obtain ⟨xs, n, _, _, hcl, hxl, hx⟩ := DataW.trod_struct Tryz.underlying81 h
 rw [fr_cRa] at hcl
 have hx3 : xs.length = 2 := hxl
 have h0 := hx 0 _ rfl
 have h1 := hx 1 _ rfl
 rw [List.getElem?_eq_getElem (by omega)] at h0 h1
 have h0' : DataW.trod enc Tryz.prog W base sp held n 79 ((cs.drop 0).take 1) = some xs[0] := h0
 have h1' : DataW.trod enc Tryz.prog W base sp held n 79 ((cs.drop 1).take 1) = some xs[1] := h1
 obtain ⟨s, hs, _, _⟩ := DataW.trod_string Tryz.underlying79 h0'
 obtain ⟨t, ht, _, _⟩ := DataW.trod_string Tryz.underlying79 h1'
 rw [string_S] at hs ht
 exact ⟨_, _, list2x hcl hs ht⟩
theorem size_open {H : Type} {enc : TypeId × Value → H} {W : World} {base : Nat} {held : Bool} {fuel : Nat} {a0 : Option Addr} {len0 cap0 : Nat} {x : DataW H × List MemPlace}
  (h : DataW.trod enc Tryz.prog W base (fun _ => true) held fuel 60 [.slice a0 len0 cap0] = some x) : ∃ L, SzT W (.slice a0 len0 cap0) L ∧ L.length ≤ 9223372036854775807 := by
 rcases open_slice Tryz.underlying60 h with ⟨hcs, _⟩ | ⟨a, len, cap, m, n, D, Pl, hcs, _, hl, hmx, hm, _, hel⟩
 ·injection hcs with h1 _
  rw [h1]
  injection h1 with _ e2 _
  exact ⟨[], ⟨none, 0, 0, 0, rfl, Nat.le_refl _, fun h => by simp at h, fun i h => by simp at h⟩, by simp⟩
 ·injection hcs with h1 _
  injection h1 with e1 e2 e3
  subst e1 e2
  rw [if_pos rfl] at hm
  subst hm
  rw [fr_cRa] at hel
  have hex : ∀ i, i < len0 → ∃ p : List UInt8 × List UInt8, W.cell? (a.add (i * 2)) = some (S p.1) ∧ W.cell? (a.add (i * 2 + 1)) = some (S p.2) := by
   intro i hi
   obtain ⟨cs', h1, h2⟩ := hel i (by omega)
   obtain ⟨s, t, rfl⟩ := rat_list h2
   obtain ⟨k1, k2⟩ := cells_twox h1
   rw [add_add] at k1 k2
   exact ⟨(s, t), k1, k2⟩
  obtain ⟨f, hf⟩ := choose_lt hex
  refine ⟨(List.range len0).map f, ?_, by rw [List.length_map, List.length_range]; unfold maxLen at hmx; omega⟩
  have hsp : 0 < len0 → a.spot = none := fun h => by simpa [Addr.add] using World.cell?_spot (hf 0 h).1
  obtain ⟨b, o, sp⟩ := a
  refine ⟨some ⟨b, o, sp⟩, b, o, cap0, by simp, by simpa [← e3] using hl, fun h => ?_, fun i hi => ?_⟩
  ·have := hsp (by simpa using h)
   simp at this
   rw [this]
  ·have hi' : i < len0 := by simpa using hi
   have := hsp (by omega)
   simp at this
   subst this
   obtain ⟨k1, k2⟩ := hf i hi'
   rw [add_plain] at k1 k2
   refine ⟨by simpa using k1, ?_⟩
   rw [Nat.add_assoc]; simpa using k2
theorem fr_c8 : Tryz.prog.cellsOf 51 = 1 := by kernel_rfl
theorem take_one {l : List Value} {k : Nat} {x : Value} (h : (l.drop k).take 1 = [x]) : l[k]? = some x := by
 have := congrArg (·[0]?) h
 simpa [List.getElem?_take] using this
theorem i8_bounds {n : Int} (h : (Lit.int .i8 n).wf = true) : -128 ≤ n ∧ n ≤ 127 := by
 simp only [Lit.wf, Bool.and_eq_true, decide_eq_true_eq] at h
 have e1 : IntKind.i8.min = -128 := by rfl
 have e2 : IntKind.i8.max = 127 := by rfl
 omega
theorem u8_bounds {n : Int} (h : (Lit.int .u8 n).wf = true) : 0 ≤ n ∧ n ≤ 255 := by
 simp only [Lit.wf, Bool.and_eq_true, decide_eq_true_eq] at h
 have e1 : IntKind.u8.min = 0 := by rfl
 have e2 : IntKind.u8.max = 255 := by rfl
 omega
theorem i8_cells {H : Type} {enc : TypeId × Value → H} {W : World} {base : Nat} {sp : Nat → Bool} {held : Bool} {fuel n : Nat} {t : TypeId} {l : List Value} {x : DataW H × List MemPlace} (ht : Tryz.prog.underlying t = some (.array n 51))
  (h : DataW.trod enc Tryz.prog W base sp held fuel t l = some x) : ∀ j, j < n → ∃ z : Int, l[j]? = some (.int .i8 z) ∧ -128 ≤ z ∧ z ≤ 127 := by
 obtain ⟨xs, m, _, _, _, hxl, hx⟩ := DataW.trod_array ht h
 intro j hj
 have h1 := hx j hj
 rw [fr_c8, Nat.mul_one, List.getElem?_eq_getElem (by omega)] at h1
 obtain ⟨z, hz, _, hw⟩ := DataW.trod_int Tryz.underlying51 h1
 exact ⟨z, take_one hz, i8_bounds hw⟩
theorem fr_cSpo : Tryz.prog.cellsOf 62 = 2 := by kernel_rfl
theorem spoil_open {H : Type} {enc : TypeId × Value → H} {W : World} {base : Nat} {held : Bool} {fuel : Nat} {cs : Array Value} {x : DataW H × List MemPlace} (hs : cs.size = 2)
  (h : DataW.trod enc Tryz.prog W base (fun _ => true) held fuel 62 cs.toList = some x) : ∃ hw a n c L, Value.agg cs = .agg #[.int .u8 hw, .slice a n c] ∧ (0 ≤ hw ∧ hw ≤ 255) ∧ SzT W (.slice a n c) L ∧ L.length ≤ 9223372036854775807 := by
 obtain ⟨xs, n, _, _, _, hxl, hx⟩ := DataW.trod_struct Tryz.underlying62 h
 have hx3 : xs.length = 2 := hxl
 have h0 := hx 0 _ rfl
 have h1 := hx 1 _ rfl
 rw [List.getElem?_eq_getElem (by omega)] at h0 h1
 have h0' : DataW.trod enc Tryz.prog W base (fun _ => true) held n 5 ((cs.toList.drop 0).take 1) = some xs[0] := h0
 have h1' : DataW.trod enc Tryz.prog W base (fun _ => true) held n 60 ((cs.toList.drop 1).take 1) = some xs[1] := h1
 have hl : cs.toList.length = 2 := by simpa using hs
 obtain ⟨b, hb, _, wb⟩ := DataW.trod_int Tryz.underlying5 h0'
 have hsl : ∃ a n c, (cs.toList.drop 1).take 1 = [.slice a n c] := by
  rcases open_slice Tryz.underlying60 h1' with ⟨hcs, _⟩ | ⟨a, len, cap, _, _, _, _, hcs, _⟩
  ·exact ⟨_, _, _, hcs⟩
  ·exact ⟨_, _, _, hcs⟩
 obtain ⟨a, m, c, hc⟩ := hsl
 rw [hc] at h1'
 obtain ⟨L, hS, hL⟩ := size_open h1'
 refine ⟨b, a, m, c, L, ?_, u8_bounds wb, hS, hL⟩
 congr 1
 apply Array.ext'
 rw [list2x hl hb hc]
theorem fr_cA4 : Tryz.prog.cellsOf 120 = 4 := by kernel_rfl
theorem cells_four {W : World} {base : Nat} {a : Addr} {l : List Value} (h : W.cells? base a 4 = some l) : ∀ j, j < 4 → W.cell? (a.add j) = l[j]? := by
 unfold World.cells? at h
 split at h
 case isFalse => cases h
 intro j hj
 have hj2 := Go.mapM_some_get h j
 have hl : l.length = 4 := by
  have := Go.mapM_some_length h
  simpa using this
 have h0 := hj2 j (by simp [hj])
 simpa using h0
theorem rowsA_open {H : Type} {enc : TypeId × Value → H} {W : World} {base : Nat} {held : Bool} {fuel : Nat} {l : List Value} {x : DataW H × List MemPlace}
  (h : DataW.trod enc Tryz.prog W base (fun _ => true) held fuel 22 l = some x) : ∃ v Z, l = [v] ∧ RowsA W v Z := by
 rcases open_slice Tryz.underlying22 h with ⟨hcs, _⟩ | ⟨a, len, cap, m, n, D, Pl, hcs, _, hl, hmx, hm, _, hel⟩
 ·exact ⟨.slice none 0 0, [], hcs, none, 0, 0, 0, rfl, Nat.le_refl _, fun h => by simp at h, fun i h => by simp at h, fun i h => by simp at h⟩
 ·rw [if_pos rfl] at hm
  subst hm
  rw [fr_cA4] at hel
  have hex : ∀ i, i < len → ∃ zs : List Int, (zs.length = 4 ∧ ∀ z ∈ zs, -128 ≤ z ∧ z ≤ 127) ∧ ∀ j, j < 4 → W.cell? (a.add (i * 4 + j)) = some (.int .i8 (zs.getD j 0)) := by
   intro i hi
   obtain ⟨cs', h1, h2⟩ := hel i (by omega)
   have h3 := i8_cells Tryz.underlying120 h2
   have h4 := cells_four h1
   obtain ⟨z0, k0, b0⟩ := h3 0 (by omega)
   obtain ⟨z1, k1, b1⟩ := h3 1 (by omega)
   obtain ⟨z2, k2, b2⟩ := h3 2 (by omega)
   obtain ⟨z3, k3, b3⟩ := h3 3 (by omega)
   refine ⟨[z0, z1, z2, z3], ⟨rfl, fun z hz => ?_⟩, fun j hj => ?_⟩
   ·simp only [List.mem_cons, List.not_mem_nil, or_false] at hz
    rcases hz with rfl | rfl | rfl | rfl <;> assumption
   ·rw [← add_add, h4 j hj]
    rcases (show j = 0 ∨ j = 1 ∨ j = 2 ∨ j = 3 by omega) with rfl | rfl | rfl | rfl
    ·exact k0
    ·exact k1
    ·exact k2
    ·exact k3
  obtain ⟨f, hf⟩ := choose_lt hex
  have hsp : 0 < len → a.spot = none := fun h => by simpa [Addr.add] using World.cell?_spot ((hf 0 h).2 0 (by omega))
  obtain ⟨b, o, sp⟩ := a
  refine ⟨_, (List.range len).map f, hcs, some ⟨b, o, sp⟩, b, o, m, by simp, by simpa using hl, fun h => ?_, fun i hi => ?_, fun i hi j hj => ?_⟩
  ·have := hsp (by simpa using h)
   simp at this
   rw [this]
  ·have hi' : i < len := by simpa using hi
   simpa using (hf i hi').1
  ·have hi' : i < len := by simpa using hi
   have := hsp (by omega)
   simp at this
   subst this
   have k1 := (hf i hi').2 j hj
   rw [add_plain] at k1
   rw [show o + 4 * i + j = o + (i * 4 + j) by omega, k1]
   simp
theorem list3t {l : List Value} {a b c : Value} (hl : l.length = 3) (h0 : (l.drop 0).take 1 = [a]) (h1 : (l.drop 1).take 1 = [b]) (h2 : (l.drop 2).take 1 = [c]) : l = [a, b, c] := by
 match l, hl with
 | [p, q, r], _ =>
  simp at h0 h1 h2
  subst h0 h1 h2
  rfl
theorem plan18_open {H : Type} {enc : TypeId × Value → H} {W : World} {base : Nat} {held : Bool} {fuel : Nat} {cs : Array Value} {x : DataW H × List MemPlace} (hs : cs.size = 3)
  (h : DataW.trod enc Tryz.prog W base (fun _ => true) held fuel 24 cs.toList = some x) : ∃ b rv vals Z, cs = #[.int .u8 b, rv, .bool vals] ∧ (0 ≤ b ∧ b ≤ 255) ∧ RowsA W rv Z := by
 obtain ⟨xs, n, _, _, _, hxl, hx⟩ := DataW.trod_struct Tryz.underlying24 h
 have hx3 : xs.length = 3 := hxl
 have h0 := hx 0 _ rfl
 have h1 := hx 1 _ rfl
 have h2 := hx 2 _ rfl
 rw [List.getElem?_eq_getElem (by omega)] at h0 h1 h2
 have h0' : DataW.trod enc Tryz.prog W base (fun _ => true) held n 5 ((cs.toList.drop 0).take 1) = some xs[0] := h0
 have h1' : DataW.trod enc Tryz.prog W base (fun _ => true) held n 22 ((cs.toList.drop 1).take 1) = some xs[1] := h1
 have h2' : DataW.trod enc Tryz.prog W base (fun _ => true) held n 4 ((cs.toList.drop 2).take 1) = some xs[2] := h2
 obtain ⟨b, hb, _, wb⟩ := DataW.trod_int Tryz.underlying5 h0'
 obtain ⟨v, Z, hv, hZ⟩ := rowsA_open h1'
 obtain ⟨vals, hvl, _⟩ := DataW.trod_bool Tryz.underlying4 h2'
 have hl := list3t (by simpa using hs) hb hv hvl
 exact ⟨b, v, vals, Z, by rw [show cs = cs.toList.toArray from Array.toArray_toList.symm, hl], u8_bounds wb, hZ⟩
end Go.Proofs.YtjnpakablgommaaGreatDoor
