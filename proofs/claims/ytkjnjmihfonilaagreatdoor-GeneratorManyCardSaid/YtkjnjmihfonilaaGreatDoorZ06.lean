/- Part 6, beside the shared parts, of the proof of the claim: contracts and plain laws; no condition. -/
import Derived.Test.YtkjnjmihfonilaaGreatDoorV01
import Derived.Test.YtkjnjmihfonilaaGreatDoorV02
import Derived.Test.YtkjnjmihfonilaaGreatDoorV03
import Derived.Test.YtkjnjmihfonilaaGreatDoorV04
import Derived.Test.YtkjnjmihfonilaaGreatDoorV05
import Derived.Test.YtkjnjmihfonilaaGreatDoorV06
import Derived.Test.YtkjnjmihfonilaaGreatDoorV07
import Derived.Test.YtkjnjmihfonilaaGreatDoorV08
import Derived.Test.YtkjnjmihfonilaaGreatDoorV09
import Derived.Test.YtkjnjmihfonilaaGreatDoorV10
import Derived.Test.YtkjnjmihfonilaaGreatDoorV11
import Derived.Test.YtkjnjmihfonilaaGreatDoorV12
import Derived.Test.YtkjnjmihfonilaaGreatDoorV13
import Derived.Test.YtkjnjmihfonilaaGreatDoorV14
import Derived.Test.YtkjnjmihfonilaaGreatDoorV15
import Derived.Test.YtkjnjmihfonilaaGreatDoorV16
import Derived.Test.YtkjnjmihfonilaaGreatDoorV17
import Derived.Test.YtkjnjmihfonilaaGreatDoorV18
import Derived.Test.YtkjnjmihfonilaaGreatDoorV19
import Derived.Test.YtkjnjmihfonilaaGreatDoorV20
import Derived.Test.YtkjnjmihfonilaaGreatDoorV21
import Derived.Test.YtkjnjmihfonilaaGreatDoorV22
import Derived.Test.YtkjnjmihfonilaaGreatDoorV23
import Derived.Test.YtkjnjmihfonilaaGreatDoorV24
import Derived.Test.YtkjnjmihfonilaaGreatDoorV25
import Derived.Test.YtkjnjmihfonilaaGreatDoorV26
import Derived.Test.YtkjnjmihfonilaaGreatDoorV27
import Derived.Test.YtkjnjmihfonilaaGreatDoorV28
import Derived.Test.YtkjnjmihfonilaaGreatDoorV29
import Derived.Test.YtkjnjmihfonilaaGreatDoorV30
import Derived.Test.YtkjnjmihfonilaaGreatDoorZ01
import Derived.Test.YtkjnjmihfonilaaGreatDoorZ02
import Derived.Test.YtkjnjmihfonilaaGreatDoorZ03
import Derived.Test.YtkjnjmihfonilaaGreatDoorZ04
import Derived.Test.YtkjnjmihfonilaaGreatDoorZ05
import Derived.Deep.RegionHeld3
import Derived.Deep.CutRange
namespace Go.Proofs.YtkjnjmihfonilaaGreatDoor
open Go.RowKit Go.Sort
set_option maxRecDepth 100000 in
set_option maxHeartbeats 2000000 in
theorem Solve0 {w : World} {vm vb : Value} {M : Mx} {b : List Int} {c E : Nat} (hM : MatR w vm M) (hb : RowR w vb b) (hs0 : sizeE M b = 0) (h0 : 0 < M.length) (hc : c = ncols M) (hEe : E = 30) (hz : ∀ r ∈ M, ∀ z ∈ r, z = 0)
    (hE : 2 * ((E + (E + 1) * M.length) + ((E + (E + 1) * M.length) + 1) * M.length) + 6 < LIM) (hL : Laid w) :
    Calls Tryz.prog 64 #[vm, vb] w (SolPost w M c b) := by
  obtain ⟨hck, hrk, hbl⟩ := sizeE_ok hs0
  obtain ⟨hl12, hn12, hRt, hent⟩ := checkM_ok hck
  obtain ⟨hb64, hbent⟩ := chkRow_ok hrk
  have hbc : b.length = c := by rw [hc]; exact hbl h0
  rw [← hc] at hn12 hRt
  have hsz := Lib.hid (sized_any hM hb)
  rw [hs0] at hsz
  obtain ⟨N, hN⟩ : ∃ N, N = M.length := ⟨_, rfl⟩
  have hwd := Lib.hid (fun W (hW : Ext w W) => wide0 (hM.ext hW) hRt h0 (by omega) (by omega) hent hz (hL.ext hW))
  have hbig := Lib.hid (fun W (bx : Nat) (sb : Option Addr) (bb ob cb : Nat) (hW : Ext w W) (hS : Sl w sb bb ob (is b)) (hcb : b.length ≤ cb) (hbx : W.cell? ⟨bx, 0, none⟩ = some (.slice sb b.length cb)) =>
    sbig_any (w := W) (v := .slice (some ⟨bx, 0, none⟩) 1 1) (M := [b]) ⟨_, bx, 0, 1, [.slice sb b.length cb], rfl, Nat.le_refl _, rfl, ⟨fun _ => rfl, fun i x hx => by
      have : i = 0 := by have := (List.getElem?_eq_some_iff.1 hx).1; simp at this; omega
      subst this
      simp only [List.getElem?_cons_zero, Option.some.injEq] at hx
      rw [← hx]; exact hbx⟩, fun i a bb' => by
      have : i = 0 := by simp at a; omega
      subst this
      exact ⟨sb, bb, ob, cb, rfl, hcb, hS.ext hW⟩⟩ (by simp) (fun r hr => by simp at hr; subst hr; omega) (fun r hr z hz => by simp at hr; subst hr; have := hbent z hz; unfold I64; omega) (hL.ext hW))
  obtain ⟨sb, bb, ob, cb, rfl, hcb, hSb⟩ := hb
  obtain ⟨sa, gb, go, cap, vs, rfl, hcap, hvl, hS, hr⟩ := hM
  obtain rfl := hS.addr (by omega)
  have hrep := Lib.hid (fun W (bx : Nat) (hW : W.cell? ⟨bx, 0, none⟩ = some (I 0)) => repeat_any (m := N) (by omega) (b := bx) (o := 0) (c := 1) (z := 0) (w := W) hW)
  obtain ⟨s0, hs, hy0, hy1, hy2⟩ := info_parts Tryz.infoStr
  have HSb := Lib.hid hSb
  have HRt := Lib.hid hRt
  have Hent := Lib.hid hent
  have Hbent := Lib.hid hbent
  have HE := Lib.hid hE
  have HEe := Lib.hid hEe
  have HL := Lib.hid hL
  have HN := Lib.hid hN
  have Hbc := Lib.hid hbc
  have hN2 : 0 < N := by omega
  have hN12 : N ≤ 12 := by omega
  have hN0 : (N == 0) = false := beq_eq_false_iff_ne.2 (by omega)
  have hN1 : ((N : Int) == 0) = false := beq_eq_false_iff_ne.2 (by omega)
  have hz1 : I 0 = .string ⟨#[48]⟩ := by unfold I S; rw [itoa_zero]
  have Hz1 := Lib.hid hz1
  rw [← hN] at hsz hwd h0 hcap hl12 ⊢
  rw [hbc] at hsz hcb hbig ⊢
  clear hz hs0 hck hrk hbl hRt hent hbent hSb hE hEe hL hN hbc hS hvl hr hc hz1
  go_enter Tryz.func64, Tryz.ntmps64
  go_wp2_with fail
  refine hsz.out.mono ?_
  rintro e w1 ⟨rfl, hE1⟩
  go_wp2_with fail
  refine (hwd.out _ hE1).mono ?_
  rintro e w2 ⟨g, cp, H, rfl, hH, hHl, hG, hHb, hE2⟩
  rw [← HN.out] at hHl
  have hE12 := hE1.trans hE2
  have HH := Lib.hid hH
  have HG := Lib.hid hG
  have HHb := Lib.hid hHb
  clear hsz hwd hH hG hHb
  go_upto_region 7 with fail
  go_cut [10] from 32 to 42 (fun lv wx => ∃ gl cl, lv = slv gl (c + N) cl ∧ Hid (OwnV 80 w2.heap.size wx gl cl (ss (b ++ List.replicate N 0))) ∧ Ext w2 wx)
  case first =>
    have d7 : Ext w2 w2.drew := (Ext.refl w2).drew
    have hcbI : (c : Int) ≤ (cb : Int) := by omega
    have hNews : ∀ W gr cr, OwnV 80 0 W gr cr (ss (List.replicate N 0)) → ∀ (j : Nat) (u : Value), (ss (List.replicate N 0))[j]? = some u → W.cell? ((⟨gr, 0, none⟩ : Addr).add j) = some u := fun W gr cr hO j u hj => by
      have h2 := hO.sl.cell j u hj
      simpa [Addr.add_lit] using h2
    have HNews := Lib.hid hNews
    have HOne := Lib.hid (show ∀ u ∈ ss (List.replicate N 0), u.oneCell' = true from fun u hu => by
      obtain ⟨y, _, rfl⟩ := List.mem_map.1 hu
      rfl)
    have Hzl := Lib.hid (show (ss (List.replicate N 0)).length = N * 1 by rw [ss_length]; simp)
    clear hNews
    go_region_law (first
      | (go_simp; go_at_call 108; refine (hbig.out _ _ sb bb ob cb (hE12.trans (by first | exact ((Ext.refl w2).alloc _).drew | exact (((Ext.refl w2).alloc _).alloc _).drew)) HSb.out hcb (by go_simp)).mono ?_; rintro e W7 ⟨v1, ad1, rfl, hG7, hE7⟩; obtain ⟨ga1, cap1, rfl, hcap1, hs1⟩ := hG7.shape; obtain ⟨g1, rfl⟩ := hs1 (by simp); have HG7 := Lib.hid hG7; obtain ⟨gx, cx, _, hx1, hx2, _⟩ := hG7.hd (i := 0) (by simp); have HI7 := Lib.hid (show IntsV w2.heap.size W7 (xv b.length gx cx) b from IntsV.mono hx2 (by simp <;> omega)); obtain ⟨xa, xl, xk, hxv⟩ := xv_slice b.length gx cx; have Hxv := Lib.hid hxv; simp only [List.getD_cons_zero] at hx1; rw [hxv] at hx1; have hx1s : g1 < W7.heap.size := World.block_lt_of_cell? _ _ hx1; have h67 := Ext.trans (show Ext w2 _ by first | exact ((Ext.refl w2).alloc _).drew | exact (((Ext.refl w2).alloc _).alloc _).drew) hE7; clear hG7 hx2 hxv; (first | (have zz := box_a (v := .string ⟨#[48]⟩) hE7; obtain ⟨z7, z8⟩ := zz) | (have zz := box_b (v := .string ⟨#[48]⟩) hE7; obtain ⟨z7, z8⟩ := zz) | skip))
      | (go_simp; go_at_call 100; refine (hrep.out _ _ (by rw [Hz1.out]; first | exact z7 | go_simp)).mono ?_; rintro e W8 ⟨gr, cr, rfl, hO8, hE8⟩; have hx8 := hE8.cell (by first | exact hx1 | exact ((Ext.refl W7).alloc _).cell hx1); have h78 := Ext.trans (show Ext W7 _ by first | exact Ext.refl _ | exact (Ext.refl _).alloc _) hE8; have HN8 := Lib.hid (HNews.out _ _ _ (hO8.mono (Nat.zero_le _))); have HI8 := Lib.hid (show IntsV w2.heap.size W8 (xv b.length gx cx) b from HI7.out.ext h78); have h68 := Ext.trans h67 h78; have hs68 := h68.size; clear hO8)
      | (refine step_append_lies _ (by rfl) _ _ _ (by rfl) w2.heap.size 80 s0 _ 1 16 Tryz.underlying88 hs hy0 hy1 hy2 rfl (by omega) (xv b.length gx cx) b.length (ss b) (by rw [Hxv.out]; rfl) HI8.out ⟨gr, 0, none⟩ N cr (ss (List.replicate N 0)) (by rfl) Hzl.out HN8.out HOne.out hN2 (by have := Hbc.out; unfold maxLen; omega) (by have := Hbc.out; omega) hs68 W8.heap.size (by simp) ?_; intro gg cap9 w9 hown9 hgrow9 hat9 hlt9; have h9 : Ext w2 w9 := Ext.mk' (Below.grown h68 hgrow9 hs68 (fun q hq => (World.ownsRow.lt HI8.out q hq).1)); have H9 := Lib.hid (show OwnV 80 w2.heap.size w9 gg cap9 (ss (b ++ List.replicate N 0)) by unfold OwnV; rw [ss_append, List.length_append, Hzl.out, ss_length, Nat.mul_one]; exact hown9); clear hown9 hgrow9 hat9))
    all_goals (try go_wp2_with fail)
    all_goals go_meet
    all_goals exact ⟨gg, cap9, by rw [← Hbc.out], H9, h9⟩
  case rest =>
    obtain ⟨gl, cl, rfl, hO, hE3⟩ := hcut
    generalize wc = X at *
    have hE13 := hE12.trans hE3
    obtain ⟨ps, hI⟩ := HH.out.1
    have hup := upr_rows (c := c) hI
    rw [← HN.out] at hup
    have HRtH := Lib.hid (show Rect (c + N) H by have := hI.rect; rw [← HN.out] at this; exact this)
    have Hup := Lib.hid hup
    have HE0 := Lib.hid (show 30 ≤ E by have := HEe.out; omega)
    have HHb2 := Lib.hid (show ∀ r ∈ H, ∀ z ∈ r, z.natAbs < 2 ^ E by rw [HEe.out]; exact HHb.out)
    have hEn := HE.out
    rw [← HN.out] at hEn
    have HEN := Lib.hid hEn
    clear hI hup hEn
    obtain ⟨sg, bg, og, cg, vg, hgv, hgc, hgl, hgS, hgr⟩ := HG.out
    injection hgv with q1 _ q3
    subst q3
    have HgS := Lib.hid hgS
    have Hgl := Lib.hid hgl
    have Hgr := Lib.hid hgr
    have Hq1 := Lib.hid q1
    have hHc : (H.length : Int) ≤ (cp : Int) := by omega
    clear hgS hgl hgr q1
    go_wp2_with fail
    go_loopw [11, 44] (fun out idx wr => ∃ i : Nat, i ≤ H.length ∧ idx = .int .i64 i ∧ Hid (RdO X.heap.size X wr out (upr c (H.take i))) ∧ Ext X wr) (fun _ idx _ => H.length - (intOf idx).toNat)
    case atStart => exact ⟨0, by omega, by go_num, Lib.hid (RdO.nil _ _ _), Ext.refl _⟩
    case round =>
      obtain ⟨i, hi', rfl, hV, hE4⟩ := hrel
      generalize wr = Y at *
      by_cases hlt : i < H.length
      · have hii : (i : Int) < (H.length : Int) := by omega
        have hq := HgS.out.addr (by rw [Hgl.out]; omega)
        rw [← Hq1.out] at hq
        injection hq with hq
        injection hq with hq1 hq2
        obtain ⟨sr, br, or, cr, hrow, hrc, hSr⟩ := GridR.row HgS.out Hgl.out Hgr.out hlt
        rw [← hq1, ← hq2, Nat.zero_add] at hrow
        have hrl : H[i].length = c + N := HRtH.out _ (List.getElem_mem hlt)
        have hstep := upr_step (c := c) hlt
        obtain ⟨r, hr⟩ : ∃ r, r = H[i] := ⟨_, rfl⟩
        rw [← hr] at hrow hrc hSr hrl hstep
        rw [hrl] at hrow hrc
        have hrow' := (hE3.trans hE4).cell hrow
        obtain rfl := hSr.addr (by rw [ss_length]; omega)
        have Hrd := Lib.hid (show IntsR X (.slice (some ⟨br, or, none⟩) (c + N) cr) r from ⟨_, br, or, cr, by rw [hrl], by rw [hrl]; exact hrc, hSr.ext hE3⟩)
        have hld := Lib.hid (slead_any (w := Y) (cap := cr) (hSr.ext (hE3.trans hE4)) (by omega))
        rw [hrl] at hld
        have Hul := Lib.hid (show (upr c (H.take i)).length ≤ 1000000000 by have := upr_len c (H.take i); rw [List.length_take] at this; omega)
        clear hq1 hq2 hr hrow hrc hSr hrl
        obtain ⟨p, hp⟩ : ∃ p, p = pv r := ⟨_, rfl⟩
        rw [← hp] at hstep hld
        by_cases hpc : p < c
        · have hpi : (p : Int) < (c : Int) := by omega
          rw [if_pos hpc] at hstep
          have Hstep := Lib.hid hstep
          have hXY := hE4.size
          clear hstep hp hpc
          go_wp2_with fail
          refine hld.out.mono ?_
          rintro e W ⟨rfl, hW⟩
          have hWX := hW.size
          go_wp2_with (at_builtin; refine app_rd rfl _ _ rfl (B := X.heap.size) (w0 := X) rfl ((hV.out.ext hW).ext ((Ext.refl _).alloc _)) rfl (b := W.heap.size) (rv := .slice (some ⟨br, or, none⟩) (c + N) cr) (r := r) (by go_simp) Hrd.out Hul.out (by simp; omega) ?_; intro gg cap2 w8 hO8 hB8 hG8; rw [← Hstep.out] at hO8)
          have hE8 : Ext X w8 := Below.trans ((hE4.trans hW).alloc _) hB8
          have HO8 := Lib.hid hO8
          clear hG8 hB8 hO8
          go_wp2_with fail
          go_roundw
          case rel => exact ⟨i + 1, by omega, by go_num, Lib.hid (by
            have h1 := HO8.out
            rw [Hstep.out] at h1 ⊢
            simpa using h1), hE8⟩
          case measure => simp [intOf] <;> omega
        · have hpi : ¬ (p : Int) < (c : Int) := by omega
          rw [if_neg hpc] at hstep
          have Hstep := Lib.hid hstep
          clear hstep hp hpc
          go_wp2_with fail
          refine hld.out.mono ?_
          rintro e W ⟨rfl, hW⟩
          go_wp2_with fail
          go_roundw
          case rel => exact ⟨i + 1, by omega, by go_num, Lib.hid (by rw [Hstep.out]; exact hV.out.ext hW), hE4.trans hW⟩
          case measure => simp [intOf] <;> omega
      · have hie : i = H.length := by omega
        have hV2 := hV.out
        rw [hie, List.take_length] at hV2
        have hgrd := hV2.grid hE4
        have hii : ¬ (i : Int) < (H.length : Int) := by omega
        have hxl : (b ++ List.replicate N 0).length = c + N := by rw [List.length_append, Hbc.out, List.length_replicate]
        have hbx : ∀ z ∈ b ++ List.replicate N 0, z.natAbs < 2 ^ E := fun z hz => by
          have e : (2 : Nat) ^ 30 = 1073741824 := by decide
          have h3 : 2 ^ 30 ≤ 2 ^ E := Nat.pow_le_pow_right (by omega) HE0.out
          rcases List.mem_append.1 hz with hz | hz
          · have := Hbent.out z hz; omega
          · have := (List.mem_replicate.1 hz).2; omega
        have hul := upr_len c H
        have hmul : (E + 1) * (upr c H).length ≤ (E + 1) * N := Nat.mul_le_mul_left _ (by omega)
        have hred := Lib.hid (reduced_any (w := Y) hgrd Hup.out.1 ((hO.out.ext hE4).intsR hxl) hxl (by omega) (by omega) (by omega) (fun r hr => (Hup.out.2 r hr).2) (fun r hr => HHb2.out r (List.mem_filter.1 hr).1) hbx (by have := HEN.out; omega) (HL.out.ext (hE13.trans hE4)))
        have hl1b := Lib.hid (show ∀ z ∈ solL c H N b, z.natAbs < 2 ^ (E + (E + 1) * N) from fun z hz => by
          have h3 := redX_bits (F := upr c H) (x := b ++ List.replicate N 0) (E := E) (fun r hr => by rw [Hup.out.1 r hr]; exact (Hup.out.2 r hr).2) (fun r hr => HHb2.out r (List.mem_filter.1 hr).1) hbx (upr c H).length (Nat.le_refl _) z (by rw [List.take_length]; exact hz)
          exact Nat.lt_of_lt_of_le h3 (Nat.pow_le_pow_right (by omega) (by omega)))
        have hEY := hE13.trans hE4
        rw [show redX (upr c H) (b ++ List.replicate N 0) = solL c H N b from rfl] at hred
        clear hie hV hV2 hgrd hxl hbx hul hmul hlt hO
        go_wp2_with fail
        refine hred.out.mono ?_
        rintro e w4 ⟨gx, cx, rfl, hX4, hE5⟩
        obtain ⟨l1, hl1⟩ : ∃ l1, l1 = solL c H N b := ⟨_, rfl⟩
        rw [← hl1] at hX4 hl1b
        have hl1l : l1.length = c + N := by rw [hl1, solL_length, Hbc.out]
        have hgl := hX4.lt
        have hcx := hX4.cap
        rw [ss_length, hl1l] at hcx
        have HX4 := Lib.hid hX4
        have Hl1 := Lib.hid hl1
        have Hl1l := Lib.hid hl1l
        have hld := Lib.hid (slead_any (w := w4) (cap := cx) hX4.sl (by omega : l1.length ≤ 1000000))
        rw [hl1l] at hld
        have hdec := pv_lt_take (l := l1) (c := c) (by omega)
        have Hdec := Lib.hid hdec
        obtain ⟨p, hp⟩ : ∃ p, p = pv l1 := ⟨_, rfl⟩
        rw [← hp] at hld Hdec
        have hE6 := hEY.trans hE5
        clear hX4 hl1 hl1l hdec hp hred
        by_cases hpc : p < c
        · have hpi : (p : Int) < (c : Int) := by omega
          have hnz := Hdec.out.1 hpc
          have Hres := Lib.hid (fun W (hW : Ext w4 W) => show SolPost w M c b (.returned (.tuple #[.slice none 0 0, .bool false, .int .i64 0])) W from ⟨H, HH.out, hE6.trans hW, .inl ⟨by rw [← HN.out, ← Hl1.out]; exact hnz, rfl⟩⟩)
          clear hpc hnz
          go_wp2_with fail
          refine hld.out.mono ?_
          rintro e w5 ⟨rfl, hE7⟩
          go_wp2_with fail
          go_ret3
          exact Hres.out _ hE7
        · have hpi : ¬ (p : Int) < (c : Int) := by omega
          have HZ := Lib.hid (show zeroL (l1.take c) from Classical.byContradiction fun h => hpc (Hdec.out.2 h))
          have hE1' : 2 * (E + (E + 1) * N) + 2 < LIM := by have := HEN.out; omega
          have htn := Lib.hid (fun W (hW : Ext w4 W) => sturn_part (B := Y.heap.size) (w := W) (o := c) (n := N) (cp := cx - c) (HX4.out.ext hW) (by rw [Hl1l.out]) (by omega) (fun z hz => by have := nd_lt2 (hl1b.out z hz); omega))
          have hcI : (c : Int) ≤ ((c + N : Nat) : Int) := by omega
          have hcI2 : (c : Int) ≤ (cx : Int) := by omega
          have hcast : ((c + N : Nat) : Int) = (c : Int) + (N : Int) := by omega
          have hcne : ¬ cx = c := by omega
          have hcne2 : ¬ cx - c = 0 := by omega
          clear hpc
          go_wp2_with fail
          refine hld.out.mono ?_
          rintro e w5 ⟨rfl, hE7⟩
          have hE57 := hE6.trans hE7
          go_wp2_with fail
          refine (htn.out _ hE7).mono ?_
          rintro e w6 ⟨rfl, hX6, hG6⟩
          have hE8 : Ext X w6 := ext_trans_grown (((hE4.trans hE5).trans hE7)) hG6 (by have := hE4.size; omega)
          have hE38 := hE3.trans hE8
          have hE18 := hE13.trans hE8
          have hx0l : (negM (l1.drop c)).length = N := by rw [negM_length, List.length_drop, Hl1l.out]; omega
          have hxx : l1.take c ++ (l1.drop c).map (fun z => -z) = l1.take c ++ negM (l1.drop c) := rfl
          have htl : (l1.take c).length = c := by rw [List.length_take, Hl1l.out]; omega
          rw [hxx] at hX6
          have hxr : IntsR w6 (.slice (some ⟨gx, c, none⟩) N (cx - c)) (negM (l1.drop c)) := by
            refine ⟨_, gx, c, cx - c, by rw [hx0l], by rw [hx0l]; omega, ?_⟩
            have := hX6.sl.drop (c := c) (ga' := some ⟨gx, 0 + c, none⟩) rfl
            rw [ss_drop, List.drop_left' htl, Nat.zero_add] at this
            exact this
          have Hxr := Lib.hid hxr
          have Hx0l := Lib.hid hx0l
          have hx0b : ∀ z ∈ negM (l1.drop c), z.natAbs < 2 ^ (E + (E + 1) * N) := fun z hz => by
            obtain ⟨y, hy, rfl⟩ := List.mem_map.1 hz
            rw [Int.natAbs_neg]; exact hl1b.out y (List.mem_of_mem_drop hy)
          have Hx0b := Lib.hid hx0b
          obtain ⟨qs, hK, _⟩ := krn_form HRt.out HH.out
          have HK := Lib.hid hK
          have hkl := krn_len2 c H
          have Hkb := Lib.hid (show ∀ r ∈ krn c H, ∀ z ∈ r, z.natAbs < 2 ^ (E + (E + 1) * N) from fun r hr z hz => by
            obtain ⟨s, hs, rfl⟩ := List.mem_map.1 hr
            have := HHb2.out s (List.mem_filter.1 hs).1 z (List.mem_of_mem_drop hz)
            exact Nat.lt_of_lt_of_le this (Nat.pow_le_pow_right (by omega) (by omega)))
          have hkr := Lib.hid (kernel_any (w := w6) (c := c) (m := N) (HG.out.ext hE38) HRtH.out hN2 (by omega) (by omega))
          have hmul : (E + (E + 1) * N + 1) * (krn c H).length ≤ (E + (E + 1) * N + 1) * N := Nat.mul_le_mul_left _ (by omega)
          have hrd2 := Lib.hid (fun W vF (hW : Ext w6 W) (hF : GridR W vF (krn c H)) => reduced_any (w := W) (m := N) hF (by have := HK.out.rect; rw [← HN.out] at this; exact this) (Hxr.out.ext hW) Hx0l.out hN2 (by omega) (by omega) (fun r hr => by
            obtain ⟨i, hi, rfl⟩ := List.getElem_of_mem hr
            have := HK.out.lt i hi
            rw [HK.out.pvs hi, getD_get hi, ← HN.out] at this
            exact this) Hkb.out Hx0b.out (by have := HEN.out; omega) (HL.out.ext (hE18.trans hW)))
          have hsolx : redX (krn c H) (negM (l1.drop c)) = solX c H N b := by rw [Hl1.out]; rfl
          rw [hsolx] at hrd2
          have Hsb := Lib.hid (show ∀ z ∈ solX c H N b, nd z ≤ LIM from fun z hz => by
            have h3 := redX_bits (F := krn c H) (x := negM (l1.drop c)) (E := E + (E + 1) * N) (fun r hr => by
              obtain ⟨i, hi, rfl⟩ := List.getElem_of_mem hr
              have h4 := HK.out.lt i hi
              rw [HK.out.pvs hi, getD_get hi, ← HN.out] at h4
              have h5 : (krn c H)[i].length = N := by have := HK.out.rect _ (List.getElem_mem hi); rw [← HN.out] at this; exact this
              omega) Hkb.out Hx0b.out (krn c H).length (Nat.le_refl _) z (by rw [List.take_length, hsolx]; exact hz)
            have := nd_lt2 h3
            have := HEN.out
            omega)
          have hsxl : (solX c H N b).length = N := solX_length Hbc.out
          have Hsxl := Lib.hid hsxl
          have hsml := Lib.hid (fun W bx gz cz (hW : Ext w6 W) (hZ : OwnV 80 0 W gz cz (ss (solX c H N b))) (hbx : W.cell? ⟨bx, 0, none⟩ = some (slv gz N cz)) =>
            ssmall_any (w := W) (v := .slice (some ⟨bx, 0, none⟩) 1 1) (M := [solX c H N b]) ⟨_, bx, 0, 1, [slv gz N cz], rfl, Nat.le_refl _, rfl, ⟨fun _ => rfl, fun i x hx => by
              have : i = 0 := by have := (List.getElem?_eq_some_iff.1 hx).1; simp at this; omega
              subst this
              simp only [List.getElem?_cons_zero, Option.some.injEq] at hx
              rw [← hx]; exact hbx⟩, fun i a bb' => by
              have : i = 0 := by simp at a; omega
              subst this
              exact hZ.intsR Hsxl.out⟩ (by simp) (fun r hr => by simp at hr; subst hr; rw [Hsxl.out]; omega) (fun r hr z hz => by simp at hr; subst hr; exact Hsb.out z hz) (HL.out.ext (hE18.trans hW)))
          have HZ2 := Lib.hid (show zeroL ((solL c H M.length b).take c) by rw [← HN.out, ← Hl1.out]; exact HZ.out)
          clear hX6 hxr hx0l hx0b hK hkl hmul hsolx hsxl hxx htl htn hld
          go_wp2_with fail
          refine hkr.out.mono ?_
          rintro e w7 ⟨vK, rfl, hgK, hE9⟩
          obtain ⟨ka, kb, ko, kc, kv, hkv, hk2⟩ := id hgK
          have HgK := Lib.hid hgK
          clear hgK hk2
          subst hkv
          go_wp2_with fail
          refine (hrd2.out _ _ hE9 HgK.out).mono ?_
          rintro e w8 ⟨gz, cz, rfl, hZ8, hE10⟩
          have HZ8 := Lib.hid (hZ8.mono (Nat.zero_le _))
          clear hZ8
          have hE610 := hE9.trans hE10
          go_wp2_with fail
          refine (hsml.out _ w8.heap.size gz cz (hE610.alloc _) (HZ8.out.ext ((Ext.refl _).alloc _)) (by go_simp)).mono ?_
          rintro e w9 ⟨hp9, hE11⟩
          have hfin := hE18.trans ((hE610.alloc _).trans hE11)
          cases hs : smallB (solX c H N b)
          · have hsm : smallM [solX c H N b] = false := by simp [smallM, hs]
            rw [if_neg (by rw [hsm]; decide)] at hp9
            subst hp9
            have Hres := Lib.hid (show SolPost w M c b (.returned (.tuple #[.slice none 0 0, .bool false, .int .i64 4])) w9 from ⟨H, HH.out, hfin, .inr (.inr ⟨HZ2.out, by rw [← HN.out]; exact hs, rfl⟩)⟩)
            clear hs hsm
            go_wp2_with fail
            go_ret3
            exact Hres.out
          · have hsm : smallM [solX c H N b] = true := by simp [smallM, hs]
            rw [if_pos hsm] at hp9
            obtain ⟨vr, rfl, hvr⟩ := hp9
            obtain ⟨vs9, hv1, hv2, hv3⟩ := hvr
            have h90 := hv3 0 (by simp) (by rw [hv1]; simp)
            rcases hv2.2 with ⟨_, h0'⟩ | ⟨g9, c9, cur9, rfl, _, _, hc9, _⟩
            · simp at h0'
            · have hc9' := World.ownsRow.cellAt hv2 0 (by simp)
              rw [List.getElem?_eq_getElem (by rw [hv1]; simp)] at hc9'
              simp only [List.length_singleton] at hc9 hc9'
              obtain ⟨rv, hrv⟩ : ∃ rv, rv = vs9[0]'(by rw [hv1]; simp) := ⟨_, rfl⟩
              rw [← hrv] at hc9' h90
              have hc10 : w9.cell? ⟨g9, 0, none⟩ = some rv := by simpa using hc9'
              have hsz8 := (hE18.trans (hE610.alloc (.cells #[slv gz N cz] 88))).size
              have Hres := Lib.hid (show SolPost w M c b (.returned (.tuple #[rv, .bool true, .int .i64 0])) w9 from ⟨H, HH.out, hfin, .inr (.inl ⟨HZ2.out, by rw [← HN.out]; exact hs, rv, rfl, by rw [← HN.out]; exact RowV.mono h90 hsz8⟩)⟩)
              clear hs hsm h90 hv1 hv2 hv3 hrv hc9'
              go_wp2_with fail
              go_ret3
              exact Hres.out
end Go.Proofs.YtkjnjmihfonilaaGreatDoor
namespace Go.Proofs.YtkjnjmihfonilaaGreatDoor
open Go.RowKit Go.Sort
def zL (k p : Nat) : Mx := List.replicate k (List.replicate p 0)
@[simp] theorem zL_length (k p : Nat) : (zL k p).length = k := by simp [zL]
theorem zL_get {k p i : Nat} (h : i < (zL k p).length) : (zL k p)[i] = List.replicate p 0 := by simp [zL]
theorem zero_small (p : Nat) : smallB (List.replicate p 0) = true := smallB_iff.2 fun z hz => by
  have := (List.mem_replicate.1 hz).2; omega
theorem zero_bg {p : Nat} (hp : p ≤ 64) : bgE p (List.replicate p 0) = 0 := by
  unfold bgE
  rw [if_pos (small_chk (zero_small p) (by simpa using hp)), if_pos (by simp)]
theorem sum_none : ∀ n, sumZ (fun _ => 0) n = 0
  | 0 => rfl
  | n + 1 => by rw [sumZ, sum_none n]; rfl
theorem tmpL_none (M : Mx) (p : Nat) : tmpL M (List.replicate p 0) = List.replicate M.length 0 := by
  unfold tmpL
  refine List.ext_getElem (by simp) fun i h1 h2 => ?_
  rw [List.getElem_map, List.getElem_replicate]
  unfold tmpE
  have : (fun j => (List.replicate p (0 : Int)).getD j 0 * (M[i]'(by simpa using h1)).getD j 0) = fun _ => 0 := by
    funext j
    rw [List.getD_eq_getElem?_getD, List.getElem?_replicate]
    split <;> simp
  rw [this]
  exact sum_none _
theorem zL_tmp (M : Mx) (k p : Nat) : (zL k p).map (tmpL M) = zL k M.length := by
  unfold zL
  rw [List.map_replicate, tmpL_none]
theorem zL_ls {k p : Nat} (hp : p ≤ 64) : lsE p (zL k p) = if 12 < k then 4 else 0 := by
  unfold lsE
  rw [if_pos (fbE_none fun j hj => by rw [zL_get]; exact zero_bg hp), zL_length]
theorem zL_all (M : Mx) (k p : Nat) : allS M (zL k p) = true := allS_yes fun i hi => by
  rw [zL_get, tmpL_none]; exact zero_small _
theorem zL_chk : ∀ (k : Fin 13) (r : Fin 5), 0 < k.val → checkM (zL k.val r.val) = 0 ∧ ncols (zL k.val r.val) = r.val := by decide +kernel
theorem zL_run : ∀ (k : Fin 13) (r : Fin 5), 0 < k.val → 0 < r.val → ∃ a, runD 5 k.val r.val 40 0 (startD (zL k.val r.val) r.val) = some (0, a) ∧ BM 5 a.a := fun k r hk hr => by
  have h : ∀ (k : Fin 13) (r : Fin 5), 0 < k.val → 0 < r.val → ((runD 5 k.val r.val 40 0 (startD (zL k.val r.val) r.val)).map fun p => (p.1, p.2.a.all fun r => r.all fun z => decide (z.natAbs < 2 ^ 5))) = some (0, true) := by decide +kernel
  obtain ⟨⟨t, a⟩, h1, h2⟩ := Option.map_eq_some_iff.1 (h k r hk hr)
  simp only [Prod.mk.injEq] at h2
  obtain ⟨rfl, h4⟩ := h2
  refine ⟨a, h1, fun r hr z hz => ?_⟩
  have := List.all_eq_true.1 (List.all_eq_true.1 h4 r hr) z hz
  exact of_decide_eq_true this
theorem quo_zero {w : World} {v : Value} {k r : Nat} (hk0 : 0 < k) (hk : k ≤ 12) (hr0 : 0 < r) (hr4 : r ≤ 4) (hM : MatR w v (zL k r)) (hL : Laid w) :
    Calls Tryz.prog 54 #[v, .int .i64 r] w fun e w' => (∃ s c, e = .returned (.tuple #[.slice s 0 c, .int .i64 r, .int .i64 0])) ∧ Ext w w' := by
  obtain ⟨k1, k2⟩ := zL_chk ⟨k, by omega⟩ ⟨r, by omega⟩ hk0
  obtain ⟨a, h1, h3⟩ := zL_run ⟨k, by omega⟩ ⟨r, by omega⟩ hk0 hr0
  simp only at k1 k2 h1
  exact Quotient_none hM (by omega) k1 (by rw [zL_length]; exact hk0) k2 (fun w v hM hL => (Factors_any (E := 5) (f := 40) (c := r) (rank := 0) (fin := a) hM k1 (by rw [zL_length]; exact hk0) k2.symm hr0 (by rw [zL_length]; exact h1) (Nat.zero_le _) (Nat.zero_le _) h3 (by unfold LIM; omega) (by omega) hL).mono fun e w' hq => by
    obtain ⟨hq, hE⟩ := hq
    rw [show diagL 0 a.a = [] from rfl, if_pos (show smallB [] = true from rfl)] at hq
    obtain ⟨v, e1, h2⟩ := hq
    exact ⟨v, e1, h2, hE⟩) hL
theorem redX_none : ∀ (F : Mx) {x : List Int}, zeroL x → zeroL (redX F x)
  | [], _, h => h
  | r :: F, x, h => by
    refine redX_none F ?_
    have h0 : stepQ r x = 0 := by
      unfold stepQ
      rw [show x.getD (pv r) 0 = 0 from zero_vr.1 h (pv r), Int.zero_fdiv]
    rw [h0]
    have hs : ∀ (a b : List Int), zeroL a → zeroL (subK 0 a b) := by
      intro a
      induction a with
      | nil => intro b _; cases b <;> (intro z hz; simp [subK] at hz)
      | cons y a ih =>
        intro b h
        cases b with
        | nil => simpa [subK] using h
        | cons c b =>
          intro z hz
          simp only [subK, Int.zero_mul, Int.sub_zero, List.mem_cons] at hz
          rcases hz with rfl | hz
          · exact h z (by simp)
          · exact ih b (fun z hz => h z (by simp [hz])) z hz
    exact hs x r h
theorem solve0_num : ∀ k : Fin 13, 2 * ((30 + (30 + 1) * k.val) + ((30 + (30 + 1) * k.val) + 1) * k.val) + 6 < LIM := by decide +kernel
theorem solve_zero {w : World} {v : Value} {k r : Nat} {sx : Option Addr} {cx : Nat} (hk0 : 0 < k) (hk : k ≤ 12) (hr4 : r ≤ 4) (hM : MatR w v (zL k r)) (hx : RowR w (.slice sx r cx) (List.replicate r 0)) (hL : Laid w) :
    Calls Tryz.prog 64 #[v, .slice sx r cx] w fun e w' => (∃ a f c, e = .returned (.tuple #[a, .bool f, .int .i64 c]) ∧ ((∃ s cc, a = .slice s k cc) ∧ f = true ∧ c = 0)) ∧ Ext w w' := by
  obtain ⟨k1, k2⟩ := zL_chk ⟨k, by omega⟩ ⟨r, by omega⟩ hk0
  simp only at k1 k2
  have hs0 : sizeE (zL k r) (List.replicate r 0) = 0 := by
    unfold sizeE
    rw [if_pos k1, if_pos (small_chk (zero_small r) (by simp; omega)), if_neg (by rw [k2]; simp)]
  have hn := solve0_num ⟨k, by omega⟩
  simp only at hn
  have h := Solve0 (E := 30) (c := r) hM hx hs0 (by rw [zL_length]; exact hk0) k2.symm rfl (fun r hr z hz => by
    rw [(List.mem_replicate.1 hr).2] at hz
    exact (List.mem_replicate.1 hz).2) (by rw [zL_length]; exact hn) hL
  refine h.mono fun e w' hq => ?_
  obtain ⟨H, hH, hE, hq⟩ := hq
  rw [zL_length] at hq
  have hz1 : zeroL (solL r H k (List.replicate r 0)) := redX_none _ fun z hz => by
    rcases List.mem_append.1 hz with hz | hz <;> exact (List.mem_replicate.1 hz).2
  have hz2 : zeroL ((solL r H k (List.replicate r 0)).take r) := fun z hz => hz1 z (List.mem_of_mem_take hz)
  have hz3 : zeroL (solX r H k (List.replicate r 0)) := redX_none _ fun z hz => by
    obtain ⟨y, hy, rfl⟩ := List.mem_map.1 hz
    rw [hz1 y (List.mem_of_mem_drop hy)]; rfl
  have hsm : smallB (solX r H k (List.replicate r 0)) = true := smallB_iff.2 fun z hz => by rw [hz3 z hz]; omega
  refine ⟨?_, hE⟩
  rcases hq with ⟨h1, _⟩ | ⟨_, _, v, rfl, hv⟩ | ⟨_, h1, _⟩
  · exact absurd hz2 h1
  · obtain ⟨s, _, _, cc, e1, _⟩ := hv.row
    rw [solX_length (by simp)] at e1
    exact ⟨_, _, _, rfl, ⟨s, cc, e1⟩, rfl, rfl⟩
  · rw [hsm] at h1; cases h1
theorem gGenerates_zero {w : World} {P : List Int} {C M : Mx} {sp : Option Addr} {cp : Nat} {sc : Option Addr} {lc cc : Nat} {sm : Option Addr} {lm cm : Nat} {sl : Option Addr} {k cl : Nat} (h : TmV w P C M M sp cp sc lc cc sm lm cm) (hk0 : 0 < k) (hk : k ≤ 1000) (hl : MatR w (.slice sl k cl) (zL k P.length)) (hL : Laid w) :
    Calls Tryz.prog 26 #[tmS P sp cp sc lc cc sm lm cm, .slice sl k cl] w fun e w' => e = .returned (if 12 < k then .tuple #[.bool false, .int .i64 4] else .tuple #[.bool (decide (M.length = 0)), .int .i64 0]) ∧ Ext w w' := by
  obtain ⟨psM, hIM⟩ := h.ok.kM.1
  have hlM := isH_len hIM
  have hp4 := h.ok.p4
  have hls := zL_ls (k := k) (p := P.length) (by omega)
  by_cases h12 : 12 < k
  · rw [if_pos h12] at hls ⊢
    have := gGenerates_bad h hl hL (by rw [hls]; decide) (by rw [zL_length]; omega)
    rw [hls] at this
    exact this
  · rw [if_neg h12] at hls ⊢
    have hg := gGenerates_u (free := M.length) (fl := 0) h hl hL hls (zL_all _ _ _) (by rw [zL_length]; omega) (fun h0 W v hW hv => by
      rw [zL_tmp] at hv
      exact quo_zero hk0 (by omega) h0 (by omega) hv (hL.ext hW))
    refine hg.mono fun e w' hq => ?_
    obtain ⟨rfl, hE⟩ := hq
    refine ⟨?_, hE⟩
    have : gnB M.length M.length 0 = decide (M.length = 0) := by
      unfold gnB
      refine decide_eq_decide.2 ⟨fun h => ?_, fun h => .inl h⟩
      rcases h with h | ⟨h, _⟩ <;> omega
    rw [this]
set_option maxRecDepth 100000 in
set_option maxHeartbeats 4000000 in
theorem gExpress_bad {w : World} {P : List Int} {C M : Mx} {sp : Option Addr} {cp : Nat} {sc : Option Addr} {lc cc : Nat} {sm : Option Addr} {lm cm : Nat} {sl : Option Addr} {nl cl : Nat} {L : Mx} {vx : Value} (h : TmV w P C M M sp cp sc lc cc sm lm cm) (hl : MatR w (.slice sl nl cl) L) (hL : Laid w) (hls : lsE P.length L ≠ 0) (hbig : L.length ≤ 1000000) :
    Calls Tryz.prog 32 #[tmS P sp cp sc lc cc sm lm cm, .slice sl nl cl, vx] w fun e w' => e = .returned (.tuple #[.slice none 0 0, .bool false, .int .i64 (lsE P.length L)]) ∧ Ext w w' := by
  have hli := Lib.hid (fun W (hW : Ext w W) => glisted_any (h.ext hW) (hl.ext hW) (hL.ext hW) hbig)
  have hX := (Ext.refl w).alloc (.cells #[.slice sp P.length cp, .slice sc lc cc, .slice sm lm cm] 34)
  have x0 : (w.alloc (.cells #[.slice sp P.length cp, .slice sc lc cc, .slice sm lm cm] 34)).cell? ⟨w.heap.size, 0, none⟩ = some (.slice sp P.length cp) := by go_simp
  have x1 : (w.alloc (.cells #[.slice sp P.length cp, .slice sc lc cc, .slice sm lm cm] 34)).cell? ⟨w.heap.size, 1, none⟩ = some (.slice sc lc cc) := by go_simp
  have x2 : (w.alloc (.cells #[.slice sp P.length cp, .slice sc lc cc, .slice sm lm cm] 34)).cell? ⟨w.heap.size, 2, none⟩ = some (.slice sm lm cm) := by go_simp
  obtain ⟨z, hz⟩ : ∃ z, z = lsE P.length L := ⟨_, rfl⟩
  rw [← hz] at hls hli ⊢
  have h2 : (z == 0) = false := beq_eq_false_iff_ne.2 hls
  have h3 : (z != 0) = true := by simp [bne, h2]
  clear h hl hL hz
  go_enter Tryz.func32, Tryz.ntmps32
  go_wp2_with fail
  refine (hli.out _ hX).mono ?_
  rintro e X ⟨rfl, hE1⟩
  have e1 := hX.trans hE1
  go_wp2_with fail
  go_ret3
  exact ⟨rfl, e1⟩
theorem gExpress_zero {w : World} {P : List Int} {C M : Mx} {sp : Option Addr} {cp : Nat} {sc : Option Addr} {lc cc : Nat} {sm : Option Addr} {lm cm : Nat} {sl : Option Addr} {k cl : Nat} {sx : Option Addr} {cx : Nat} (h : TmV w P C M M sp cp sc lc cc sm lm cm) (hk0 : 0 < k) (hk : k ≤ 1000) (hl : MatR w (.slice sl k cl) (zL k P.length)) (hx : RowR w (.slice sx M.length cx) (List.replicate M.length 0)) (hL : Laid w) :
    Calls Tryz.prog 32 #[tmS P sp cp sc lc cc sm lm cm, .slice sl k cl, .slice sx M.length cx] w fun e w' => (∃ a f c, e = .returned (.tuple #[a, .bool f, .int .i64 c]) ∧ if 12 < k then a = .slice none 0 0 ∧ f = false ∧ c = 4 else (∃ s cc, a = .slice s k cc) ∧ f = true ∧ c = 0) ∧ Ext w w' := by
  obtain ⟨psM, hIM⟩ := h.ok.kM.1
  have hlM := isH_len hIM
  have hp4 := h.ok.p4
  have hls := zL_ls (k := k) (p := P.length) (by omega)
  by_cases h12 : 12 < k
  · rw [if_pos h12] at hls
    have := gExpress_bad (vx := .slice sx M.length cx) h hl hL (by rw [hls]; decide) (by rw [zL_length]; omega)
    rw [hls] at this
    refine this.mono fun e w' hq => ?_
    obtain ⟨rfl, hE⟩ := hq
    exact ⟨⟨_, _, _, rfl, by rw [if_pos h12]; exact ⟨rfl, rfl, rfl⟩⟩, hE⟩
  · rw [if_neg h12] at hls
    have hg := gExpress_u (R := fun a f c _ => (∃ s cc, a = .slice s k cc) ∧ f = true ∧ c = 0) h hl hx hL hls (zero_bg (by omega)) (zL_all _ _ _) (by rw [zL_length]; omega) (fun W v hW hv => by
      rw [zL_tmp] at hv
      exact solve_zero hk0 (by omega) (by omega) hv (hx.ext hW) (hL.ext hW))
    refine hg.mono fun e w' hq => ?_
    obtain ⟨⟨a, f, c, rfl, hq⟩, hE⟩ := hq
    exact ⟨⟨a, f, c, rfl, by rw [if_neg h12]; exact hq⟩, hE⟩
end Go.Proofs.YtkjnjmihfonilaaGreatDoor
