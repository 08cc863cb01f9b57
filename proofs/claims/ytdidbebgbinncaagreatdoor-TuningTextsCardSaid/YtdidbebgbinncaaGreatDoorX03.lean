/- Part 3, beside the shared parts, of the proof of the claim: contracts and plain laws; no condition. -/
import Derived.Test.YtdidbebgbinncaaGreatDoorV01
import Derived.Test.YtdidbebgbinncaaGreatDoorV02
import Derived.Test.YtdidbebgbinncaaGreatDoorV03
import Derived.Test.YtdidbebgbinncaaGreatDoorV04
import Derived.Test.YtdidbebgbinncaaGreatDoorV05
import Derived.Test.YtdidbebgbinncaaGreatDoorV06
import Derived.Test.YtdidbebgbinncaaGreatDoorV07
import Derived.Test.YtdidbebgbinncaaGreatDoorV08
import Derived.Test.YtdidbebgbinncaaGreatDoorV09
import Derived.Test.YtdidbebgbinncaaGreatDoorV10
import Derived.Test.YtdidbebgbinncaaGreatDoorV11
import Derived.Test.YtdidbebgbinncaaGreatDoorV12
import Derived.Test.YtdidbebgbinncaaGreatDoorV13
import Derived.Test.YtdidbebgbinncaaGreatDoorV14
import Derived.Test.YtdidbebgbinncaaGreatDoorV15
import Derived.Test.YtdidbebgbinncaaGreatDoorV16
import Derived.Test.YtdidbebgbinncaaGreatDoorV17
import Derived.Test.YtdidbebgbinncaaGreatDoorV18
import Derived.Test.YtdidbebgbinncaaGreatDoorV19
import Derived.Test.YtdidbebgbinncaaGreatDoorV20
import Derived.Test.YtdidbebgbinncaaGreatDoorV21
import Derived.Test.YtdidbebgbinncaaGreatDoorV22
import Derived.Test.YtdidbebgbinncaaGreatDoorV23
import Derived.Test.YtdidbebgbinncaaGreatDoorV24
import Derived.Test.YtdidbebgbinncaaGreatDoorV25
import Derived.Test.YtdidbebgbinncaaGreatDoorV26
import Derived.Test.YtdidbebgbinncaaGreatDoorV27
import Derived.Test.YtdidbebgbinncaaGreatDoorV28
import Derived.Test.YtdidbebgbinncaaGreatDoorV29
import Derived.Test.YtdidbebgbinncaaGreatDoorV30
import Derived.Test.YtdidbebgbinncaaGreatDoorV31
import Derived.Test.YtdidbebgbinncaaGreatDoorV32
import Derived.Test.YtdidbebgbinncaaGreatDoorV33
import Derived.Test.YtdidbebgbinncaaGreatDoorX01
import Derived.Test.YtdidbebgbinncaaGreatDoorX02
import Derived.Test.YtdidbebgbinncaaGreatDoorRows
import Derived.ProofKit
import Derived.LaidMore
import Derived.OpenShut
import Derived.Stop.Joined
import Derived.Stop.LaidErr
import Derived.Lib.LaidTab
import Derived.Deep.Matrix
namespace Go.Proofs.YtdidbebgbinncaaGreatDoor
open Go.RowKit Go.Sort
theorem tuV_off {T : TypeId} {B0 : Nat} {w w' : World} {b : Nat} {P : List Int} {C M : Mx} {G : List (List Rat)} {sp : Option Addr} {cp : Nat} {sc : Option Addr} {lc cc : Nat} {sm : Option Addr} {lm cm : Nat} {sg : Option Addr} {lg cg : Nat} (h : TuV w P C M G sp cp sc lc cc sm lm cm sg lg cg) (ho : OwnV T B0 w b 4 [.slice none 0 0, .slice none 0 0, .slice none 0 0, .slice none 0 0]) (hg : w.grownBy w' (some b)) : TuV w' P C M G sp cp sc lc cc sm lm cm sg lg cg := by
  obtain ⟨psC, hIC⟩ := h.tm.ok.kC.1
  obtain ⟨psM, hIM⟩ := h.tm.ok.kM.1
  have hp0 := h.tm.ok.p0
  exact ⟨⟨h.tm.ok, row_off h.tm.hP ho hg, mat_off h.tm.hC (fun r hr => by rw [hIC.rect r hr]; exact hp0) ho hg, mat_off h.tm.hM (fun r hr => by rw [hIM.rect r hr]; exact hp0) ho hg⟩, gn_off h.gn (fun r hr => by rw [h.cl r hr]; exact hp0) ho hg, h.ln, h.cl, h.sh⟩
theorem joinTail_snoc (s : List UInt8) (y : List UInt8) : ∀ r : List (List UInt8), Lib.joinTail s (r ++ [y]) = Lib.joinTail s r ++ (s ++ y) := fun r => by simp [Lib.joinTail]
theorem joinA_snoc (xs : List ByteArray) (s : List UInt8) (z : ByteArray) : joinA (xs ++ [z]) s = if xs = [] then z else joinA xs s ++ ⟨s.toArray⟩ ++ z := by
  cases xs with
  | nil =>
    rw [if_pos rfl]
    unfold joinA
    apply ByteArray.ext
    simp [Lib.join_one]
  | cons x t =>
    rw [if_neg (by simp)]
    unfold joinA
    apply ByteArray.ext
    simp [Lib.join_cons, joinTail_snoc]
def mk2G (B0 : Nat) (cs ds : Array Value) (b b' : Int) (A B A' B' : Nat → Nat → Int) : Nat → Value → World → Prop
  | 0, v, _ => v = .agg cs
  | 1, v, w => ∃ C M, TuR w v (prL b) C M (mkG A B (prL b).length M.length)
  | 2, v, _ => v = .agg ds
  | 3, v, w => ∃ C M, TuR w v (prL b') C M (mkG A' B' (prL b').length M.length)
  | _, v, w => ∃ bb, v = .pointer (some ⟨bb, 0, none⟩) ∧ B0 ≤ bb ∧ OwnV 44 0 w bb 4 [.slice none 0 0, .slice none 0 0, .slice none 0 0, .slice none 0 0]
theorem mk2G_ext {B0 : Nat} {cs ds : Array Value} {b b' : Int} {A B A' B' : Nat → Nat → Int} (j : Nat) (v : Value) (w w' : World) (h : mk2G B0 cs ds b b' A B A' B' j v w) (hE : Ext w w') : mk2G B0 cs ds b b' A B A' B' j v w' := by
  unfold mk2G at h ⊢
  split at h
  · exact h
  · obtain ⟨C, M, h⟩ := h; exact ⟨C, M, h.ext hE⟩
  · exact h
  · obtain ⟨C, M, h⟩ := h; exact ⟨C, M, h.ext hE⟩
  · obtain ⟨bb, h1, h2, h3⟩ := h; exact ⟨bb, h1, h2, h3.ext hE⟩
def mk2D (j : Nat) : Nat := if j < 4 then 26 + j else j + 1
def mk2R (i j : Nat) (v u : Value) : Prop := (i = 4 ∧ j = 5) ∨ (i = 5 ∧ j = 4) → v ≠ u
set_option maxRecDepth 100000 in
set_option maxHeartbeats 8000000 in
theorem ttx_walk {w : World} {b b' : Int} {rv rv' : Value} {Z Z' : List (List Int)} {vals vals' : Bool} {A B A' B' : Nat → Nat → Int} (hb : 0 ≤ b ∧ b ≤ 255) (hR : RowsA w rv Z) (hB : ∀ i t, 0 ≤ B i t ∧ B i t ≤ 255) (hb' : 0 ≤ b' ∧ b' ≤ 255) (hR' : RowsA w rv' Z') (hB' : ∀ i t, 0 ≤ B' i t ∧ B' i t ≤ 255) (hL : Laid w) :
    Calls Tryz.prog 4 #[planT b rv vals A B, planT b' rv' vals' A' B'] w fun e w' => e = .returned (.bool true) ∧ Ext w w' := by
  have hkn := Lib.hid (fun W (hW : Ext w W) => known24_any (hL.ext hW))
  have hft := Lib.hid (fun W (hW : Ext w W) => fits24_any (b := b) (vals := vals) (A := A) (B := B) (hR.ext hW))
  have hft' := Lib.hid (fun W (hW : Ext w W) => fits24_any (b := b') (vals := vals') (A := A') (B := B') (hR'.ext hW))
  have hmk := Lib.hid (fun W (hW : Ext w W) (h3 : Z.length ≤ 3) => make24_any (vals := vals) (A := A) hb (hR.ext hW) h3 hB (hL.ext hW))
  have hmk' := Lib.hid (fun W (hW : Ext w W) (h3 : Z'.length ≤ 3) => make24_any (vals := vals') (A := A') hb' (hR'.ext hW) h3 hB' (hL.ext hW))
  have HL := Lib.hid hL
  obtain ⟨cs, hcs⟩ : ∃ cs, Value.agg cs = planT b rv vals A B := ⟨_, rfl⟩
  obtain ⟨ds, hds⟩ : ∃ ds, Value.agg ds = planT b' rv' vals' A' B' := ⟨_, rfl⟩
  have hsz : cs.size = 35 := by
    injection hcs with h
    rw [h]; rfl
  have hsz' : ds.size = 35 := by
    injection hds with h
    rw [h]; rfl
  have hinf : (Tryz.prog.info? 32).map (·.size) = some cs.size := by rw [hsz]; kernel_rfl
  have hinf' : (Tryz.prog.info? 32).map (·.size) = some ds.size := by rw [hsz']; kernel_rfl
  simp only [← hcs, ← hds] at hft hft' hmk hmk' ⊢
  clear hcs hds hsz hsz' hb hR hB hb' hR' hB' hL
  have hX := ((Ext.refl w).alloc (.cells cs 32)).alloc (.cells ds 32)
  have hg : ((w.alloc (.cells cs 32)).alloc (.cells ds 32)).heap[w.heap.size]? = some (.cells cs 32 (0, 0)) := by
    have hA : Ext (w.alloc (.cells cs 32)) ((w.alloc (.cells cs 32)).alloc (.cells ds 32)) := (Ext.refl _).alloc _
    exact (hA.block _ (by simp)).trans (heap_alloc_new _ _)
  have hg' : ((w.alloc (.cells cs 32)).alloc (.cells ds 32)).heap[w.heap.size + 1]? = some (.cells ds 32 (0, 0)) := by
    have := heap_alloc_new (w.alloc (.cells cs 32)) (.cells ds 32)
    rwa [show (w.alloc (.cells cs 32)).heap.size = w.heap.size + 1 by simp] at this
  by_cases hz : Z.length ≤ 3
  · simp only [decide_eq_true hz] at hft
    by_cases hz' : Z'.length ≤ 3
    · simp only [decide_eq_true hz'] at hft'
      have Hz := Lib.hid hz
      have Hz' := Lib.hid hz'
      clear hz hz'
      go_enter Tryz.func4, Tryz.ntmps4
      go_wp2_with fail
      refine (hkn.out _ hX).mono ?_
      rintro e W1 ⟨rfl, hE1⟩
      have hg1 := (hE1.block _ (Array.getElem?_eq_some_iff.1 hg).1).trans hg
      have hg1' := (hE1.block _ (Array.getElem?_eq_some_iff.1 hg').1).trans hg'
      have e1 := hX.trans hE1
      clear hg hg' hE1
      go_wp2_with (refine BigFrame.wpList_want (by rfl) fun K hK => wp_load_row 32 _ rfl w.heap.size rfl 32 cs (0, 0) _ hg1 Tryz.underlying32 rfl hinf (hK _ _ ?_))
      refine (hft.out _ e1).mono ?_
      rintro e W2 ⟨rfl, hE2⟩
      have hg2 := (hE2.block _ (Array.getElem?_eq_some_iff.1 hg1).1).trans hg1
      have hg2' := (hE2.block _ (Array.getElem?_eq_some_iff.1 hg1').1).trans hg1'
      have e2 := e1.trans hE2
      clear hg1 hg1' hE2 hft
      go_wp2_with (refine BigFrame.wpList_want (by rfl) fun K hK => wp_load_row 32 _ rfl (w.heap.size + 1) rfl 32 ds (0, 0) _ hg2' Tryz.underlying32 rfl hinf' (hK _ _ ?_))
      refine (hft'.out _ e2).mono ?_
      rintro e W3 ⟨rfl, hE3⟩
      have hg3 := (hE3.block _ (Array.getElem?_eq_some_iff.1 hg2).1).trans hg2
      have hg3' := (hE3.block _ (Array.getElem?_eq_some_iff.1 hg2').1).trans hg2'
      have e3 := e2.trans hE3
      clear hg2 hg2' hE3 hft' hkn e1 e2 hX
      go_wp2_with fail
      refine wp_region_held_tail (S := fun W => Ext W3 W) 6 (by kernel_rfl) (by simp) ?_
      intro inv
      have d9 : Ext W3 W3.drew := (Ext.refl W3).drew
      refine wpAnyLH_inv2 (D := mk2D) (G := mk2G W3.heap.size cs ds b b' A B A' B') (R := mk2R) (fun i j hi hj h => by unfold mk2D at h; split at h <;> split at h <;> omega) (fun i hi => by unfold mk2D; simp; split <;> omega) ?_ (by kernel_rfl) (by kernel_rfl) (by simp) mk2G_ext ?_ ?_ 6 _ _ _ (unl_all 6 8 (by omega)) inv d9 (Frm.refl _ _ _) (fun j _ h => by rw [getD_replicate_false] at h; cases h) (fun i j _ _ _ h => by rw [getD_replicate_false] at h; cases h)
      · intro i hi o ho e he hb
        rcases (show i = 0 ∨ i = 1 ∨ i = 2 ∨ i = 3 ∨ i = 4 ∨ i = 5 by omega) with rfl | rfl | rfl | rfl | rfl | rfl <;> (obtain rfl := Option.some.inj ho; simp at he <;> (try rcases he with rfl | rfl) <;> (try subst he) <;> simp)
      · intro i hi o ho a W hS hF hd
        have hBs := hS.size
        rcases (show i = 0 ∨ i = 1 ∨ i = 2 ∨ i = 3 ∨ i = 4 ∨ i = 5 by omega) with rfl | rfl | rfl | rfl | rfl | rfl
        · obtain rfl := Option.some.inj ho
          refine wpOp_step rfl (fun K hK => ?_)
          have t2 : a.eval (.tmp 2) = .pointer (some ⟨w.heap.size, 0, none⟩) := by rw [ev_tmp, hF.other 2 (fun j _ => by unfold mk2D; split <;> omega)]; rfl
          have hgW := (hS.block _ (Array.getElem?_eq_some_iff.1 hg3).1).trans hg3
          rw [if_pos (by simp [Region.wanted])]
          exact wp_load_row 32 _ rfl w.heap.size t2 32 cs (0, 0) _ hgW Tryz.underlying32 rfl hinf (hK _ _ ⟨hS, Ext.refl W, _, rfl, rfl, fun j u _ hj _ => ⟨fun h => by rcases h with h | h <;> omega, fun h => by rcases h with h | h <;> omega⟩⟩)
        · obtain rfl := Option.some.inj ho
          refine wpOp_step rfl (fun K hK => ?_)
          have h0 := hd ⟨0, .data⟩ (by simp) rfl
          have t26 : a.tmps[26]?.getD undef = .agg cs := (ev_tmp a 26).symm.trans h0
          clear hd ho h0
          go_simp
          refine (hmk.out _ (e3.trans hS) Hz.out).mono ?_
          rintro e W5 ⟨t, C, M, rfl, hT, hE5⟩
          refine hK _ _ ⟨hS.trans hE5, hE5, _, rfl, ⟨C, M, hT⟩, fun j u _ hj _ => ⟨fun h => by rcases h with h | h <;> omega, fun h => by rcases h with h | h <;> omega⟩⟩
        · obtain rfl := Option.some.inj ho
          refine wpOp_step rfl (fun K hK => ?_)
          have t3 : a.eval (.tmp 3) = .pointer (some ⟨w.heap.size + 1, 0, none⟩) := by rw [ev_tmp, hF.other 3 (fun j _ => by unfold mk2D; split <;> omega)]; rfl
          have hgW := (hS.block _ (Array.getElem?_eq_some_iff.1 hg3').1).trans hg3'
          rw [if_pos (by simp [Region.wanted])]
          exact wp_load_row 32 _ rfl (w.heap.size + 1) t3 32 ds (0, 0) _ hgW Tryz.underlying32 rfl hinf' (hK _ _ ⟨hS, Ext.refl W, _, rfl, rfl, fun j u _ hj _ => ⟨fun h => by rcases h with h | h <;> omega, fun h => by rcases h with h | h <;> omega⟩⟩)
        · obtain rfl := Option.some.inj ho
          refine wpOp_step rfl (fun K hK => ?_)
          have h0 := hd ⟨2, .data⟩ (by simp) rfl
          have t28 : a.tmps[28]?.getD undef = .agg ds := (ev_tmp a 28).symm.trans h0
          clear hd ho h0
          go_simp
          refine (hmk'.out _ (e3.trans hS) Hz'.out).mono ?_
          rintro e W5 ⟨t, C, M, rfl, hT, hE5⟩
          refine hK _ _ ⟨hS.trans hE5, hE5, _, rfl, ⟨C, M, hT⟩, fun j u _ hj _ => ⟨fun h => by rcases h with h | h <;> omega, fun h => by rcases h with h | h <;> omega⟩⟩
        · obtain rfl := Option.some.inj ho
          refine wpOp_step rfl (fun K hK => ?_)
          clear hd ho
          go_simp
          refine hK _ _ ⟨hS.alloc _, (Ext.refl W).alloc _, _, rfl, ⟨W.heap.size, rfl, hBs, (own4 W _ _ _ _ _).mono (by omega)⟩, ?_⟩
          intro j u hj6 hj hu
          have key : j = 5 → Value.pointer (some ⟨W.heap.size, 0, none⟩) ≠ u := fun e h => by
            subst e
            obtain ⟨bb, e1, _, h3⟩ := hu
            rw [e1] at h
            have h4 := h3.lt.2
            have h5 : W.heap.size = bb := by
              injection h with h
              injection h with h
              injection h
            omega
          exact ⟨fun h => key (by omega), fun h h2 => key (by omega) h2.symm⟩
        · obtain rfl := Option.some.inj ho
          refine wpOp_step rfl (fun K hK => ?_)
          clear hd ho
          go_simp
          refine hK _ _ ⟨hS.alloc _, (Ext.refl W).alloc _, _, rfl, ⟨W.heap.size, rfl, hBs, (own4 W _ _ _ _ _).mono (by omega)⟩, ?_⟩
          intro j u hj6 hj hu
          have key : j = 4 → Value.pointer (some ⟨W.heap.size, 0, none⟩) ≠ u := fun e h => by
            subst e
            obtain ⟨bb, e1, _, h3⟩ := hu
            rw [e1] at h
            have h4 := h3.lt.2
            have h5 : W.heap.size = bb := by
              injection h with h
              injection h with h
              injection h
            omega
          exact ⟨fun h => key (by omega), fun h h2 => key (by omega) h2.symm⟩
      · intro listed a W inv hall hS hF hGa hRa
        obtain ⟨C, M, hT⟩ := hGa 1 (by omega)
        obtain ⟨C', M', hT'⟩ := hGa 3 (by omega)
        obtain ⟨b5, h5, h5b, hO5⟩ := hGa 4 (by omega)
        obtain ⟨b6, h6, h6b, hO6⟩ := hGa 5 (by omega)
        have hne : b5 ≠ b6 := fun e => hRa 4 5 (by omega) (by omega) (by omega) (.inl ⟨rfl, rfl⟩) (by rw [h5, h6, e])
        obtain ⟨sp, cp, sc, lc, cc, sm, lm, cm, sg, lg, cg, hv, hTv⟩ := hT
        obtain ⟨sp', cp', sc', lc', cc', sm', lm', cm', sg', lg', cg', hv', hTv'⟩ := hT'
        refine ⟨by rw [listed_eq inv hall]; kernel_rfl, ?_⟩
        have haE := hF.eq (fun i j hi hj h => by unfold mk2D at h; split at h <;> split at h <;> omega) (fun i hi => by unfold mk2D; simp; split <;> omega)
        have E0 : a.eval (.tmp 26) = .agg cs := hGa 0 (by omega)
        have E1 : a.eval (.tmp 27) = tuS (prL b) sp cp sc lc cc sm lm cm sg lg cg := hv
        have E2 : a.eval (.tmp 28) = .agg ds := hGa 2 (by omega)
        have E3 : a.eval (.tmp 29) = tuS (prL b') sp' cp' sc' lc' cc' sm' lm' cm' sg' lg' cg' := hv'
        have E4 : a.eval (.tmp 5) = .pointer (some ⟨b5, 0, none⟩) := h5
        have E5 : a.eval (.tmp 6) = .pointer (some ⟨b6, 0, none⟩) := h6
        rw [haE]
        clear haE
        simp only [putAll, E0, E1, E2, E3, E4, E5, show mk2D 0 = 26 from rfl, show mk2D 1 = 27 from rfl, show mk2D 2 = 28 from rfl, show mk2D 3 = 29 from rfl, show mk2D 4 = 5 from rfl, show mk2D 5 = 6 from rfl, List.drop_succ_cons, List.drop_zero]
        go_simp
        obtain ⟨Hr5, He5, Hg5⟩ := set4 hS h5b hO5 (.slice sp (prL b).length cp) (.slice sc lc cc) (.slice sm lm cm) (.slice sg lg cg)
        have hO6' := hO6.other Hg5 (Ne.symm hne)
        have hT1' := tuV_off hTv hO5 Hg5
        have hT2' := tuV_off hTv' hO5 Hg5
        have m0 := hO5.cell (j := 0) (by simp)
        have m1 := hO5.cell (j := 1) (by simp)
        have m2 := hO5.cell (j := 2) (by simp)
        have m3 := hO5.cell (j := 3) (by simp)
        have f0 := hO5.frozen 0
        have f1 := hO5.frozen 1
        have f2 := hO5.frozen 2
        have f3 := hO5.frozen 3
        obtain ⟨Hr6, He6, Hg6⟩ := set4 He5 h6b hO6' (.slice sp' (prL b').length cp') (.slice sc' lc' cc') (.slice sm' lm' cm') (.slice sg' lg' cg')
        have hT1F := tuV_off hT1' hO6' Hg6
        have hT2F := tuV_off hT2' hO6' Hg6
        have HrA := Hr5.other Hg6 hne
        have n0 := hO6'.cell (j := 0) (by simp)
        have n1 := hO6'.cell (j := 1) (by simp)
        have n2 := hO6'.cell (j := 2) (by simp)
        have n3 := hO6'.cell (j := 3) (by simp)
        have k0 := hO6'.frozen 0
        have k1 := hO6'.frozen 1
        have k2 := hO6'.frozen 2
        have k3 := hO6'.frozen 3
        simp only [List.getElem_cons_zero, List.getElem_cons_succ] at m0 m1 m2 m3 n0 n1 n2 n3
        have HF := Lib.hid (And.intro hT1F (And.intro hT2F (And.intro HrA (And.intro Hr6 He6))))
        clear hGa hRa E0 E1 E2 E3 E4 E5 h5 h6 hv hv' hTv hTv' hF hall inv Hr5 He5 Hg5 hO6' hT1' hT2' Hr6 He6 Hg6 hT1F hT2F HrA hO5 hO6 d9 hS
        go_wp2_with fail
        obtain ⟨hT, hT', hrA, hrB, heF⟩ := HF.out
        clear HF m0 m1 m2 m3 n0 n1 n2 n3 f0 f1 f2 f3 k0 k1 k2 k3 hmk hmk' hg3 hg3' hinf hinf' hne h5b h6b
        generalize ((((((((W.setCell ⟨b5, 0, none⟩ (.slice sp (prL b).length cp)).setCell ⟨b5, 1, none⟩ (.slice sc lc cc)).setCell ⟨b5, 2, none⟩ (.slice sm lm cm)).setCell ⟨b5, 3, none⟩ (.slice sg lg cg)).setCell ⟨b6, 0, none⟩ (.slice sp' (prL b').length cp')).setCell ⟨b6, 1, none⟩ (.slice sc' lc' cc')).setCell ⟨b6, 2, none⟩ (.slice sm' lm' cm')).setCell ⟨b6, 3, none⟩ (.slice sg' lg' cg')) = X at *
        have eX := e3.trans heF
        have x0 := hrA.cell (j := 0) (by simp)
        have x1 := hrA.cell (j := 1) (by simp)
        have x2 := hrA.cell (j := 2) (by simp)
        have x3 := hrA.cell (j := 3) (by simp)
        have z0 := hrB.cell (j := 0) (by simp)
        have z1 := hrB.cell (j := 1) (by simp)
        have z2 := hrB.cell (j := 2) (by simp)
        have z3 := hrB.cell (j := 3) (by simp)
        simp only [List.getElem_cons_zero, List.getElem_cons_succ] at x0 x1 x2 x3 z0 z1 z2 z3
        have HT := Lib.hid hT
        have HT' := Lib.hid hT'
        clear hT hT' hrA hrB heF e3
        have Htx := Lib.hid (tuText_any HT.out (HL.out.ext eX))
        refine Htx.out.mono ?_
        rintro e Y ⟨rfl, hE1⟩
        have eY := eX.trans hE1
        replace x0 := hE1.cell x0
        replace x1 := hE1.cell x1
        replace x2 := hE1.cell x2
        replace x3 := hE1.cell x3
        replace z0 := hE1.cell z0
        replace z1 := hE1.cell z1
        replace z2 := hE1.cell z2
        replace z3 := hE1.cell z3
        have HTY := Lib.hid (HT.out.ext hE1)
        have HTY' := Lib.hid (HT'.out.ext hE1)
        have hlg := HT.out.gn.len
        have hg4 : (mkG A B (prL b).length M.length).length ≤ 4 := by rw [mkG_length]; exact HT.out.tm.m4
        have hp4 := HT.out.tm.ok.p4
        have h64 : ∀ z ∈ prL b, I64 z := fun z hz => (HT.out.tm.ok.pr z hz).i64
        have Hbt := Lib.hid (fun i (h : i < (mkG A B (prL b).length M.length).length) => show (szTx (prL b) (mkG A B (prL b).length M.length)[i]).data.toList.length ≤ 365 by
          have h1 := szTx_len (P := prL b) (HTY.out.sh _ (List.getElem_mem h)) h64
          have h2 := HTY.out.cl _ (List.getElem_mem h)
          omega)
        have Hstx := Lib.hid (fun W v l (hW : Ext Y W) (hl : l ∈ mkG A B (prL b).length M.length) (hv : SzR W v l) => szText_any (w := W) (v := v) ((HTY.out.tm.ext hW).hP) (fun W2 h2 => (HTY.out.tm.pchk) W2 (hW.trans h2)) hv (HTY.out.cl l hl) (HTY.out.sh l hl) h64 (by omega) (HL.out.ext (eY.trans hW)))
        obtain ⟨sa', ga, oa, ca', va', ev, hca, hvA, hSa, hrA⟩ := HTY.out.gn
        injection ev with ev1 ev2 ev3
        subst ev1 ev3
        have HA := Lib.hid hSa
        have HvA := Lib.hid hvA
        have HrA := Lib.hid hrA
        have HG : Hid (tuTx (prL b) (mkG A B (prL b).length M.length) = joinA ((mkG A B (prL b).length M.length).map (szTx (prL b))) [44, 32]) := Lib.hid rfl
        generalize mkG A B (prL b).length M.length = GG at *
        subst hlg
        have Hg4 := Lib.hid hg4
        clear Htx hE1 HT HT' eX hSa hvA hrA hca hg4 hp4 h64 ev2
        go_wp2_with fail
        go_loopw [9, 10] (fun sv iv wr => ∃ (i : Nat) (u : ByteArray), i ≤ GG.length ∧ iv = .int .i64 i ∧ sv = .string u ∧ Hid (u = joinA ((GG.take i).map (szTx (prL b))) [44, 32] ∧ u.size ≤ i * 367) ∧ Ext Y wr) (fun _ iv _ => GG.length - (intOf iv).toNat)
        case atStart => exact ⟨0, ⟨#[]⟩, by omega, by go_num, rfl, Lib.hid ⟨rfl, by show 0 ≤ _; omega⟩, Ext.refl _⟩
        case round =>
          obtain ⟨i, u, hi, rfl, rfl, HU, hE⟩ := hrel
          generalize wr = V at *
          have v0 := hE.cell x0
          have v3 := hE.cell x3
          have eV := eY.trans hE
          by_cases hlt : i < GG.length
          · have hii : (i : Int) < (GG.length : Int) := by omega
            have hiv : i < va'.length := by rw [HvA.out]; exact hlt
            obtain rfl := HA.out.addr (by omega)
            have k1 := hE.cell (HA.out.cell i _ (List.getElem?_eq_getElem hiv))
            have hsz := HrA.out i hlt hiv
            have hq := Lib.hid (fun W (hW : Ext V W) => Hstx.out W va'[i] GG[i] (hE.trans hW) (List.getElem_mem hlt) (hsz.ext (hE.trans hW)))
            have Hsn := Lib.hid (show (GG.take (i + 1)).map (szTx (prL b)) = (GG.take i).map (szTx (prL b)) ++ [szTx (prL b) GG[i]] by rw [List.take_succ_eq_append_getElem hlt, List.map_append]; rfl)
            have hzl := Hbt.out i hlt
            obtain ⟨xa, xb, xc, ex, hz1⟩ := hsz
            rw [ex] at k1 hq
            clear hz1 ex hiv
            generalize szTx (prL b) GG[i] = z at *
            generalize GG[i].length = nz at *
            have hi4 : i < 4 := by have := Hg4.out; omega
            have hus : u.size ≤ 4 * 367 := Nat.le_trans HU.out.2 (Nat.mul_le_mul_right _ (by omega))
            have hzs : z.size ≤ 365 := by simpa using hzl
            clear hzl
            go_wp2_with fail
            have d0 : Ext V V.drew := (Ext.refl V).drew
            refine wp_region_held_tail (S := fun W => Ext V W) 13 (by kernel_rfl) (by simp) ?_
            intro inv
            generalize V.drew = V1 at *
            refine wpAnyLH_take (i := 0) (v := .pointer (some ⟨b5, 0, none⟩)) rfl (by kernel_rfl) (fun _ _ _ h => h) (.inl ⟨by rfl, fun W hW => by go_simp⟩) d0 inv ?_
            intro inv
            go_simp
            refine wpAnyLH_take (i := 1) (v := .pointer (some ⟨b5, 0, none⟩)) rfl (by kernel_rfl) (fun _ _ _ h => h) (.inl ⟨by rfl, fun W hW => by go_simp⟩) d0 inv ?_
            intro inv
            go_simp
            refine wpAnyLH_take (i := 2) (v := .slice sp (prL b).length cp) rfl (by kernel_rfl) (fun _ _ _ h => h) (.inl ⟨by rfl, fun W hW => by have q0 := hW.cell v0; go_simp⟩) d0 inv ?_
            intro inv
            go_simp
            refine wpAnyLH_take (i := 3) (v := .pointer (some ⟨b5, 3, none⟩)) rfl (by kernel_rfl) (fun _ _ _ h => h) (.inl ⟨by rfl, fun W hW => by go_simp⟩) d0 inv ?_
            intro inv
            go_simp
            refine wpAnyLH_take (i := 4) (v := .slice (some ⟨ga, oa, none⟩) GG.length cg) rfl (by kernel_rfl) (fun _ _ _ h => h) (.inl ⟨by rfl, fun W hW => by have q0 := hW.cell v3; go_simp⟩) d0 inv ?_
            intro inv
            go_simp
            refine wpAnyLH_take (i := 5) (v := .int .i64 i) rfl (by kernel_rfl) (fun _ _ _ h => h) (.inl ⟨by rfl, fun W hW => by go_simp⟩) d0 inv ?_
            intro inv
            go_simp
            refine wpAnyLH_take (i := 6) (v := .pointer (some ⟨ga, oa + i, none⟩)) rfl (by kernel_rfl) (fun _ _ _ h => h) (.inl ⟨by rfl, fun W hW => by go_simp⟩) d0 inv ?_
            intro inv
            go_simp
            refine wpAnyLH_take (i := 7) (v := .slice xa nz xc) rfl (by kernel_rfl) (fun _ _ _ h => h) (.inl ⟨by rfl, fun W hW => by have q0 := hW.cell k1; go_simp⟩) d0 inv ?_
            intro inv
            go_simp
            refine wpAnyLH_oneI (i := 8) rfl (by kernel_rfl) inv (fun inv K0 hK0 => ?_)
            go_simp
            refine (hq.out _ d0).mono ?_
            rintro e V2 ⟨rfl, hG⟩
            have d1 := d0.trans hG
            refine hK0 _ _ d1 ?_
            clear hK0
            refine wpAnyLH_take (i := 9) (v := .tuple #[.string z, .int .i64 0]) rfl (by kernel_rfl) (fun _ _ _ h => h) (.inl ⟨by rfl, fun W hW => by go_simp⟩) d1 inv ?_
            intro inv
            go_simp
            refine wpAnyLH_take (i := 10) (v := .string z) rfl (by kernel_rfl) (fun _ _ _ h => h) (.inl ⟨by rfl, fun W hW => by go_simp⟩) d1 inv ?_
            intro inv
            go_simp
            refine wpAnyLH_take (i := 11) (v := .int .i64 0) rfl (by kernel_rfl) (fun _ _ _ h => h) (.inl ⟨by rfl, fun W hW => by go_simp⟩) d1 inv ?_
            intro inv
            go_simp
            refine wpAnyLH_oneI (i := 12) rfl (by kernel_rfl) inv (fun inv K0 hK0 => ?_)
            go_simp
            refine hK0 _ _ d1 ?_
            clear hK0
            refine wpAnyLH_end (by kernel_rfl) ?_
            have hE2 := hE.trans d1
            clear inv d0 d1 hG hq k1 v0 v3 eV
            by_cases hi0 : i = 0
            · have hi0I : (i : Int) = 0 := by omega
              have hi1I : ¬ (0 : Int) < (i : Int) := by omega
              have hnew : Hid (u ++ z = joinA ((GG.take (i + 1)).map (szTx (prL b))) [44, 32] ∧ (u ++ z).size ≤ (i + 1) * 367) := Lib.hid (by
                rw [Hsn.out, joinA_snoc]
                subst hi0
                refine ⟨?_, ?_⟩
                · rw [if_pos (by simp), HU.out.1]
                  exact ByteArray.ext (by simp [joinA, Lib.join_nil])
                · have := HU.out.2
                  rw [ByteArray.size_append]; omega)
              clear HU Hsn
              go_wp2_with fail
              go_roundw
              case rel => exact ⟨i + 1, u ++ z, by omega, by go_num, rfl, hnew, hE2⟩
              case measure => simp [intOf] <;> omega
            · have hi1I : (0 : Int) < (i : Int) := by omega
              have hnew : Hid (u ++ ⟨#[44, 32]⟩ ++ z = joinA ((GG.take (i + 1)).map (szTx (prL b))) [44, 32] ∧ (u ++ ⟨#[44, 32]⟩ ++ z).size ≤ (i + 1) * 367) := Lib.hid (by
                rw [Hsn.out, joinA_snoc]
                refine ⟨?_, ?_⟩
                · have hl : ((GG.take i).map (szTx (prL b))).length = i := by rw [List.length_map, List.length_take]; omega
                  rw [if_neg (fun h => hi0 (by rw [h] at hl; exact hl.symm)), HU.out.1]
                · have h2 := HU.out.2
                  rw [ByteArray.size_append, ByteArray.size_append, show (⟨#[44, 32]⟩ : ByteArray).size = 2 from rfl, Nat.add_mul]; omega)
              clear HU Hsn
              go_wp2_with fail
              go_roundw
              case rel => exact ⟨i + 1, u ++ ⟨#[44, 32]⟩ ++ z, by omega, by go_num, rfl, hnew, hE2⟩
              case measure => simp [intOf] <;> omega
          · obtain rfl : i = GG.length := by omega
            have hii : ¬ (GG.length : Int) < (GG.length : Int) := by omega
            have HU2 := Lib.hid (show u = tuTx (prL b) GG by rw [HG.out, HU.out.1, List.take_length])
            replace x0 := hE.cell x0
            replace x1 := hE.cell x1
            replace x2 := hE.cell x2
            replace x3 := hE.cell x3
            replace z0 := hE.cell z0
            replace z1 := hE.cell z1
            replace z2 := hE.cell z2
            replace z3 := hE.cell z3
            have HTV := Lib.hid (HTY.out.ext hE)
            have HTV' := Lib.hid (HTY'.out.ext hE)
            have Hq1 := Lib.hid (fun W (hW : Ext V W) => tuEqual_any (HTV.out.ext hW) (HTV'.out.ext hW))
            have Hq2 := Lib.hid (fun W (hW : Ext V W) => equal24_any (HTV.out.ext hW) (HTV'.out.ext hW))
            have Hq3 := Lib.hid (fun W (hW : Ext V W) => tuEqual_any (HTV.out.ext hW) (HTV.out.ext hW))
            simp only [and_self, decide_true] at Hq3
            have hu := HU2.out
            subst hu
            generalize tuTx (prL b) GG = tt at *
            have H1 := Lib.hid (Hq1.out)
            generalize decide (prL b = prL b' ∧ C = C' ∧ M = M' ∧ GG = mkG A' B' (prL b').length M'.length) = dq at *
            clear hlt HU HU2 HG Hstx Hbt H1
            go_wp2_with fail
            have d0 : Ext V V.drew := (Ext.refl V).drew
            refine wp_region_held_tail (S := fun W => Ext V W) 21 (by kernel_rfl) (by simp) ?_
            intro inv
            generalize V.drew = V1 at *
            refine wpAnyLH_take (i := 0) (v := .string tt) rfl (by kernel_rfl) (fun _ _ _ h => h) (.inl ⟨by rfl, fun W hW => by go_simp⟩) d0 inv ?_
            intro inv
            go_simp
            refine wpAnyLH_take (i := 1) (v := .string tt) rfl (by kernel_rfl) (fun _ _ _ h => h) (.inl ⟨by rfl, fun W hW => by go_simp⟩) d0 inv ?_
            intro inv
            go_simp
            refine wpAnyLH_take (i := 2) (v := .bool true) rfl (by kernel_rfl) (fun _ _ _ h => h) (.inl ⟨by rfl, fun W hW => by go_simp⟩) d0 inv ?_
            intro inv
            go_simp
            refine wpAnyLH_take (i := 3) (v := .bool true) rfl (by kernel_rfl) (fun _ _ _ h => h) (.inl ⟨by rfl, fun W hW => by go_simp⟩) d0 inv ?_
            intro inv
            go_simp
            refine wpAnyLH_take (i := 4) (v := .int .i64 0) rfl (by kernel_rfl) (fun _ _ _ h => h) (.inl ⟨by rfl, fun W hW => by go_simp⟩) d0 inv ?_
            intro inv
            go_simp
            refine wpAnyLH_take (i := 5) (v := .bool true) rfl (by kernel_rfl) (fun _ _ _ h => h) (.inl ⟨by rfl, fun W hW => by go_simp⟩) d0 inv ?_
            intro inv
            go_simp
            refine wpAnyLH_take (i := 6) (v := .bool true) rfl (by kernel_rfl) (fun _ _ _ h => h) (.inl ⟨by rfl, fun W hW => by go_simp⟩) d0 inv ?_
            intro inv
            go_simp
            refine wpAnyLH_take (i := 7) (v := .bool true) rfl (by kernel_rfl) (fun _ _ _ h => h) (.inl ⟨by rfl, fun W hW => by go_simp⟩) d0 inv ?_
            intro inv
            go_simp
            refine wpAnyLH_take (i := 8) (v := .agg #[.slice sp (prL b).length cp, .slice sc lc cc, .slice sm lm cm, .slice sg GG.length cg]) rfl (by kernel_rfl) (fun _ _ _ h => h) (.inl ⟨by rfl, fun W hW => by have q0 := hW.cell x0; have q1 := hW.cell x1; have q2 := hW.cell x2; have q3 := hW.cell x3; go_simp⟩) d0 inv ?_
            intro inv
            go_simp
            refine wpAnyLH_take (i := 9) (v := .agg #[.slice sp' (prL b').length cp', .slice sc' lc' cc', .slice sm' lm' cm', .slice sg' lg' cg']) rfl (by kernel_rfl) (fun _ _ _ h => h) (.inl ⟨by rfl, fun W hW => by have q0 := hW.cell z0; have q1 := hW.cell z1; have q2 := hW.cell z2; have q3 := hW.cell z3; go_simp⟩) d0 inv ?_
            intro inv
            go_simp
            refine wpAnyLH_take (i := 11) (v := .agg #[.slice sp (prL b).length cp, .slice sc lc cc, .slice sm lm cm, .slice sg GG.length cg]) rfl (by kernel_rfl) (fun _ _ _ h => h) (.inl ⟨by rfl, fun W hW => by have q0 := hW.cell x0; have q1 := hW.cell x1; have q2 := hW.cell x2; have q3 := hW.cell x3; go_simp⟩) d0 inv ?_
            intro inv
            go_simp
            refine wpAnyLH_take (i := 12) (v := .agg #[.slice sp' (prL b').length cp', .slice sc' lc' cc', .slice sm' lm' cm', .slice sg' lg' cg']) rfl (by kernel_rfl) (fun _ _ _ h => h) (.inl ⟨by rfl, fun W hW => by have q0 := hW.cell z0; have q1 := hW.cell z1; have q2 := hW.cell z2; have q3 := hW.cell z3; go_simp⟩) d0 inv ?_
            intro inv
            go_simp
            refine wpAnyLH_oneI (i := 10) rfl (by kernel_rfl) inv (fun inv K0 hK0 => ?_)
            go_simp
            refine (Hq1.out _ d0).mono ?_
            rintro e V2 ⟨rfl, hG1⟩
            have d1 := d0.trans hG1
            refine hK0 _ _ d1 ?_
            clear hK0
            refine wpAnyLH_oneI (i := 13) rfl (by kernel_rfl) inv (fun inv K0 hK0 => ?_)
            go_simp
            refine (Hq2.out _ d1).mono ?_
            rintro e V3 ⟨rfl, hG2⟩
            have d2 := d1.trans hG2
            refine hK0 _ _ d2 ?_
            clear hK0
            refine wpAnyLH_take (i := 14) (v := .bool true) rfl (by kernel_rfl) (fun _ _ _ h => h) (.inl ⟨by rfl, fun W hW => by cases dq <;> go_simp⟩) d2 inv ?_
            intro inv
            go_simp
            refine wpAnyLH_take (i := 15) (v := .bool true) rfl (by kernel_rfl) (fun _ _ _ h => h) (.inl ⟨by rfl, fun W hW => by go_simp⟩) d2 inv ?_
            intro inv
            go_simp
            refine wpAnyLH_take (i := 16) (v := .bool true) rfl (by kernel_rfl) (fun _ _ _ h => h) (.inl ⟨by rfl, fun W hW => by go_simp⟩) d2 inv ?_
            intro inv
            go_simp
            refine wpAnyLH_take (i := 17) (v := .agg #[.slice sp (prL b).length cp, .slice sc lc cc, .slice sm lm cm, .slice sg GG.length cg]) rfl (by kernel_rfl) (fun _ _ _ h => h) (.inl ⟨by rfl, fun W hW => by have q0 := hW.cell x0; have q1 := hW.cell x1; have q2 := hW.cell x2; have q3 := hW.cell x3; go_simp⟩) d2 inv ?_
            intro inv
            go_simp
            refine wpAnyLH_take (i := 18) (v := .agg #[.slice sp (prL b).length cp, .slice sc lc cc, .slice sm lm cm, .slice sg GG.length cg]) rfl (by kernel_rfl) (fun _ _ _ h => h) (.inl ⟨by rfl, fun W hW => by have q0 := hW.cell x0; have q1 := hW.cell x1; have q2 := hW.cell x2; have q3 := hW.cell x3; go_simp⟩) d2 inv ?_
            intro inv
            go_simp
            refine wpAnyLH_oneI (i := 19) rfl (by kernel_rfl) inv (fun inv K0 hK0 => ?_)
            go_simp
            refine (Hq3.out _ d2).mono ?_
            rintro e V4 ⟨rfl, hG3⟩
            have d3 := d2.trans hG3
            refine hK0 _ _ d3 ?_
            clear hK0
            refine wpAnyLH_take (i := 20) (v := .bool true) rfl (by kernel_rfl) (fun _ _ _ h => h) (.inl ⟨by rfl, fun W hW => by go_simp⟩) d3 inv ?_
            intro inv
            go_simp
            refine wpAnyLH_end (by kernel_rfl) ?_
            have eF := eV.trans d3
            clear inv d0 d1 d2 d3 hG1 hG2 hG3 Hq1 Hq2 Hq3 HTV HTV'
            go_wp2_with fail
            go_ret
            exact ⟨rfl, eF⟩
    · simp only [decide_eq_false hz'] at hft'
      clear hz hz'
      go_enter Tryz.func4, Tryz.ntmps4
      go_wp2_with fail
      refine (hkn.out _ hX).mono ?_
      rintro e W1 ⟨rfl, hE1⟩
      have hg1 := (hE1.block _ (Array.getElem?_eq_some_iff.1 hg).1).trans hg
      have hg1' := (hE1.block _ (Array.getElem?_eq_some_iff.1 hg').1).trans hg'
      have e1 := hX.trans hE1
      clear hg hg' hE1
      go_wp2_with (refine BigFrame.wpList_want (by rfl) fun K hK => wp_load_row 32 _ rfl w.heap.size rfl 32 cs (0, 0) _ hg1 Tryz.underlying32 rfl hinf (hK _ _ ?_))
      refine (hft.out _ e1).mono ?_
      rintro e W2 ⟨rfl, hE2⟩
      have hg2 := (hE2.block _ (Array.getElem?_eq_some_iff.1 hg1).1).trans hg1
      have hg2' := (hE2.block _ (Array.getElem?_eq_some_iff.1 hg1').1).trans hg1'
      have e2 := e1.trans hE2
      clear hg1 hg1' hE2 hft
      go_wp2_with (refine BigFrame.wpList_want (by rfl) fun K hK => wp_load_row 32 _ rfl (w.heap.size + 1) rfl 32 ds (0, 0) _ hg2' Tryz.underlying32 rfl hinf' (hK _ _ ?_))
      refine (hft'.out _ e2).mono ?_
      rintro e W3 ⟨rfl, hE3⟩
      have e3 := e2.trans hE3
      go_wp2_with fail
      refine (hkn.out _ e3).mono ?_
      rintro e W9 ⟨rfl, hE9⟩
      go_wp2_with fail
      go_ret
      exact ⟨rfl, Ext.trans e3 hE9⟩
  · simp only [decide_eq_false hz] at hft
    clear hz
    go_enter Tryz.func4, Tryz.ntmps4
    go_wp2_with fail
    refine (hkn.out _ hX).mono ?_
    rintro e W1 ⟨rfl, hE1⟩
    have hg1 := (hE1.block _ (Array.getElem?_eq_some_iff.1 hg).1).trans hg
    have hg1' := (hE1.block _ (Array.getElem?_eq_some_iff.1 hg').1).trans hg'
    have e1 := hX.trans hE1
    clear hg hg' hE1
    go_wp2_with (refine BigFrame.wpList_want (by rfl) fun K hK => wp_load_row 32 _ rfl w.heap.size rfl 32 cs (0, 0) _ hg1 Tryz.underlying32 rfl hinf (hK _ _ ?_))
    refine (hft.out _ e1).mono ?_
    rintro e W2 ⟨rfl, hE2⟩
    have hg2 := (hE2.block _ (Array.getElem?_eq_some_iff.1 hg1).1).trans hg1
    have hg2' := (hE2.block _ (Array.getElem?_eq_some_iff.1 hg1').1).trans hg1'
    have e2 := e1.trans hE2
    clear hg1 hg1' hE2 hft
    go_wp2_with fail
    refine (hkn.out _ e2).mono ?_
    rintro e W9 ⟨rfl, hE9⟩
    go_wp2_with fail
    go_ret
    exact ⟨rfl, Ext.trans e2 hE9⟩
end Go.Proofs.YtdidbebgbinncaaGreatDoor
namespace Go.Proofs.YtdidbebgbinncaaGreatDoor
open Go.ChangeShapes Go.WideShapes Go.ChangeAt Go.WideMaps Go.WideElems Go.RowKit Go.Deep
theorem fr_own : ownKnob Tryz.prog.godebug = none := by kernel_rfl
theorem fr_laidOut : laidOutB Tryz.prog = true := by kernel_rfl
theorem fr_pow : Tryz.prog.globalNamed "internal/strconv.uint64pow10" = some 3 := by kernel_rfl
theorem fr_powT : (Tryz.prog.globals[3]?).map (·.type) = some 317 := by kernel_rfl
theorem fr_rng : Tryz.prog.globalNamed "strconv.ErrRange" = some 1 := by kernel_rfl
theorem fr_rngT : (Tryz.prog.globals[1]?).map (·.type) = some 160 := by kernel_rfl
theorem fr_c20 : Tryz.prog.cellsOf 317 = 20 := by kernel_rfl
theorem fr_cu : Tryz.prog.cellsOf 240 = 1 := by kernel_rfl
theorem fr_cE : Tryz.prog.cellsOf 326 = 1 := by kernel_rfl
theorem fr_cS : Tryz.prog.cellsOf 9 = 1 := by kernel_rfl
theorem fr_star : "*" ++ "errors.errorString" = "*errors.errorString" := by decide
theorem fr_ptr (u : TypeId) (h : Tryz.prog.typeName? 3 u = some "*errors.errorString") : u = 324 :=
  typeName_ptr_named (nm := "errors.errorString") (by rw [fr_star]; kernel_rfl) (by kernel_rfl) (by decide) u (by rw [fr_star]; exact h)
abbrev fr_list : List (String × DataW Unit) := [("math/bits.deBruijn32tab", Rows.laid_math_bits_deBruijn32tab), ("math/bits.deBruijn64tab", Rows.laid_math_bits_deBruijn64tab), ("internal/strconv.uint64pow10", Rows.laid_internal_strconv_uint64pow10), ("strconv.ErrRange", Rows.laid_strconv_ErrRange), ("strconv.ErrSyntax", Rows.laid_strconv_ErrSyntax)]
theorem fr_tab : (Rows.laid_internal_strconv_uint64pow10 : DataW Unit) = Lib.tabData .u64 Lib.pow10Tab := by kernel_rfl
theorem laid_of {W : World} (h : laidMetH Tryz.prog fr_list W) : Laid W := by
  rw [MakeChecks.laidMetH_plain _ _ _ (by kernel_rfl)] at h
  have h3 := h.tail.tail
  rw [fr_tab] at h3
  refine ⟨Lib.tabIs_of_head fr_pow fr_powT Tryz.underlying317 Tryz.underlying240 fr_cu fr_c20 h3, ?_⟩
  obtain ⟨a, s, hv, _⟩ := laid_sentinel h3.tail fr_rng fr_rngT Tryz.underlying160 fr_ptr Tryz.underlying324 Tryz.underlying326 rfl rfl Tryz.underlying9 fr_cE fr_cS
  exact ⟨_, _, hv⟩
theorem door_met (os : Os) (args : Array Value) : laidMetH Tryz.prog fr_list ((World.doorLaid Tryz.prog 400 os).forCall (fun _ _ => 0) ⟨#[], args, []⟩).memory :=
  laidMetH_of_parts3 (fuel := 8) (laidMet_of_run' 8 (by kernel_rfl) (by kernel_rfl)) (by kernel_rfl) (by kernel_rfl)
end Go.Proofs.YtdidbebgbinncaaGreatDoor
namespace Go.Proofs.YtdidbebgbinncaaGreatDoor
open Go.ChangeShapes Go.WideShapes Go.ChangeAt Go.WideMaps Go.WideElems Go.RowKit Go.Deep
theorem fr_c8 : Tryz.prog.cellsOf 25 = 1 := by kernel_rfl
theorem take_one {l : List Value} {k : Nat} {x : Value} (h : (l.drop k).take 1 = [x]) : l[k]? = some x := by
  have := congrArg (·[0]?) h
  simpa [List.getElem?_take] using this
theorem i8_bounds {n : Int} (h : (Lit.int .i8 n).wf = true) : -128 ≤ n ∧ n ≤ 127 := by
  simp only [Lit.wf, Bool.and_eq_true, decide_eq_true_eq] at h
  have e1 : IntKind.i8.min = -128 := by rfl
  have e2 : IntKind.i8.max = 127 := by rfl
  omega
theorem u8_bounds {n : Int} (h : (Lit.int .u8 n).wf = true) : 0 ≤ n ∧ n ≤ 255 := by
  simp only [Lit.wf, Bool.and_eq_true, decide_eq_true_eq] at h
  have e1 : IntKind.u8.min = 0 := by rfl
  have e2 : IntKind.u8.max = 255 := by rfl
  omega
theorem i8_cells {H : Type} {enc : TypeId × Value → H} {W : World} {base : Nat} {sp : Nat → Bool} {held : Bool} {fuel n : Nat} {t : TypeId} {l : List Value} {x : DataW H × List MemPlace} (ht : Tryz.prog.underlying t = some (.array n 25))
    (h : DataW.trod enc Tryz.prog W base sp held fuel t l = some x) : ∀ j, j < n → ∃ z : Int, l[j]? = some (.int .i8 z) ∧ -128 ≤ z ∧ z ≤ 127 := by
  obtain ⟨xs, m, _, _, _, hxl, hx⟩ := DataW.trod_array ht h
  intro j hj
  have h1 := hx j hj
  rw [fr_c8, Nat.mul_one, List.getElem?_eq_getElem (by omega)] at h1
  obtain ⟨z, hz, _, hw⟩ := DataW.trod_int Tryz.underlying25 h1
  exact ⟨z, take_one hz, i8_bounds hw⟩
end Go.Proofs.YtdidbebgbinncaaGreatDoor
namespace Go.Proofs.YtdidbebgbinncaaGreatDoor
open Go.ChangeShapes Go.WideShapes Go.ChangeAt Go.WideMaps Go.WideElems Go.RowKit Go.Deep
theorem fr_cA4 : Tryz.prog.cellsOf 92 = 4 := by kernel_rfl
theorem cells_four {W : World} {base : Nat} {a : Addr} {l : List Value} (h : W.cells? base a 4 = some l) : ∀ j, j < 4 → W.cell? (a.add j) = l[j]? := by
  unfold World.cells? at h
  split at h
  case isFalse => cases h
  intro j hj
  have hj2 := Go.mapM_some_get h j
  have hl : l.length = 4 := by
    have := Go.mapM_some_length h
    simpa using this
  have h0 := hj2 j (by simp [hj])
  simpa using h0
theorem rowsA_open {H : Type} {enc : TypeId × Value → H} {W : World} {base : Nat} {held : Bool} {fuel : Nat} {l : List Value} {x : DataW H × List MemPlace}
    (h : DataW.trod enc Tryz.prog W base (fun _ => true) held fuel 22 l = some x) : ∃ v Z, l = [v] ∧ RowsA W v Z := by
  rcases open_slice Tryz.underlying22 h with ⟨hcs, _⟩ | ⟨a, len, cap, m, n, D, Pl, hcs, _, hl, hmx, hm, _, hel⟩
  · exact ⟨.slice none 0 0, [], hcs, none, 0, 0, 0, rfl, Nat.le_refl _, fun h => by simp at h, fun i h => by simp at h, fun i h => by simp at h⟩
  · rw [if_pos rfl] at hm
    subst hm
    rw [fr_cA4] at hel
    have hex : ∀ i, i < len → ∃ zs : List Int, (zs.length = 4 ∧ ∀ z ∈ zs, -128 ≤ z ∧ z ≤ 127) ∧ ∀ j, j < 4 → W.cell? (a.add (i * 4 + j)) = some (.int .i8 (zs.getD j 0)) := by
      intro i hi
      obtain ⟨cs', h1, h2⟩ := hel i (by omega)
      have h3 := i8_cells Tryz.underlying92 h2
      have h4 := cells_four h1
      obtain ⟨z0, k0, b0⟩ := h3 0 (by omega)
      obtain ⟨z1, k1, b1⟩ := h3 1 (by omega)
      obtain ⟨z2, k2, b2⟩ := h3 2 (by omega)
      obtain ⟨z3, k3, b3⟩ := h3 3 (by omega)
      refine ⟨[z0, z1, z2, z3], ⟨rfl, fun z hz => ?_⟩, fun j hj => ?_⟩
      · simp only [List.mem_cons, List.not_mem_nil, or_false] at hz
        rcases hz with rfl | rfl | rfl | rfl <;> assumption
      · rw [← add_add, h4 j hj]
        rcases (show j = 0 ∨ j = 1 ∨ j = 2 ∨ j = 3 by omega) with rfl | rfl | rfl | rfl
        · exact k0
        · exact k1
        · exact k2
        · exact k3
    obtain ⟨f, hf⟩ := choose_lt hex
    have hsp : 0 < len → a.spot = none := fun h => by simpa [Addr.add] using World.cell?_spot ((hf 0 h).2 0 (by omega))
    obtain ⟨b, o, sp⟩ := a
    refine ⟨_, (List.range len).map f, hcs, some ⟨b, o, sp⟩, b, o, m, by simp, by simpa using hl, fun h => ?_, fun i hi => ?_, fun i hi j hj => ?_⟩
    · have := hsp (by simpa using h)
      simp at this
      rw [this]
    · have hi' : i < len := by simpa using hi
      simpa using (hf i hi').1
    · have hi' : i < len := by simpa using hi
      have := hsp (by omega)
      simp at this
      subst this
      have k1 := (hf i hi').2 j hj
      rw [add_plain] at k1
      rw [show o + 4 * i + j = o + (i * 4 + j) by omega, k1]
      simp
theorem list3t {l : List Value} {a b c : Value} (hl : l.length = 3) (h0 : (l.drop 0).take 1 = [a]) (h1 : (l.drop 1).take 1 = [b]) (h2 : (l.drop 2).take 1 = [c]) : l = [a, b, c] := by
  match l, hl with
  | [p, q, r], _ =>
    simp at h0 h1 h2
    subst h0 h1 h2
    rfl
set_option maxRecDepth 100000 in
theorem plan18_open {H : Type} {enc : TypeId × Value → H} {W : World} {base : Nat} {held : Bool} {fuel : Nat} {cs : Array Value} {x : DataW H × List MemPlace} (hs : cs.size = 3)
    (h : DataW.trod enc Tryz.prog W base (fun _ => true) held fuel 24 cs.toList = some x) : ∃ b rv vals Z, cs = #[.int .u8 b, rv, .bool vals] ∧ (0 ≤ b ∧ b ≤ 255) ∧ RowsA W rv Z := by
  obtain ⟨xs, n, _, _, _, hxl, hx⟩ := DataW.trod_struct Tryz.underlying24 h
  have hx3 : xs.length = 3 := hxl
  have h0 := hx 0 _ rfl
  have h1 := hx 1 _ rfl
  have h2 := hx 2 _ rfl
  rw [List.getElem?_eq_getElem (by omega)] at h0 h1 h2
  have h0' : DataW.trod enc Tryz.prog W base (fun _ => true) held n 5 ((cs.toList.drop 0).take 1) = some xs[0] := h0
  have h1' : DataW.trod enc Tryz.prog W base (fun _ => true) held n 22 ((cs.toList.drop 1).take 1) = some xs[1] := h1
  have h2' : DataW.trod enc Tryz.prog W base (fun _ => true) held n 4 ((cs.toList.drop 2).take 1) = some xs[2] := h2
  obtain ⟨b, hb, _, wb⟩ := DataW.trod_int Tryz.underlying5 h0'
  obtain ⟨v, Z, hv, hZ⟩ := rowsA_open h1'
  obtain ⟨vals, hvl, _⟩ := DataW.trod_bool Tryz.underlying4 h2'
  have hl := list3t (by simpa using hs) hb hv hvl
  exact ⟨b, v, vals, Z, by rw [show cs = cs.toList.toArray from Array.toArray_toList.symm, hl], u8_bounds wb, hZ⟩
end Go.Proofs.YtdidbebgbinncaaGreatDoor
