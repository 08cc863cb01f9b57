/- Part 30 of the proof of the claim: contracts of the functions that it reaches, and plain laws; no condition. -/
import Derived.Test.YtkjnjmihfonilaaGreatDoorV29
import Derived.Deep.RegionHeld3
import Derived.Deep.CutRange
import Derived.Test.YtkjnjmihfonilaaGreatDoorV24
import Derived.Test.YtkjnjmihfonilaaGreatDoorV26
import Derived.Test.YtkjnjmihfonilaaGreatDoorV11
namespace Go.Proofs.YtkjnjmihfonilaaGreatDoor
open Go.RowKit Go.Sort
theorem upr_step {c i : Nat} {H : Mx} (h : i < H.length) : upr c (H.take (i + 1)) = if pv H[i] < c then upr c (H.take i) ++ [H[i]] else upr c (H.take i) := by
  unfold upr
  rw [take_snocM h, List.filter_append]
  by_cases hp : pv H[i] < c
  · rw [if_pos hp, List.filter_cons_of_pos (by simp [hp])]; simp
  · rw [if_neg hp, List.filter_cons_of_neg (by simp [hp])]; simp
theorem upr_len (c : Nat) (H : Mx) : (upr c H).length ≤ H.length := List.length_filter_le _ _
theorem krn_len2 (c : Nat) (H : Mx) : (krn c H).length ≤ H.length := by unfold krn low; rw [List.length_map]; exact List.length_filter_le _ _
theorem pv_lt_take {l : List Int} {c : Nat} (hc : c ≤ l.length) : pv l < c ↔ ¬ zeroL (l.take c) := by
  constructor
  · intro h hz
    have := zero_vr.1 hz (pv l)
    rw [vr_take, if_pos h] at this
    exact pv_ne (by omega) this
  · intro h
    refine Classical.byContradiction fun hc2 => h (zero_vr.2 fun j => ?_)
    rw [vr_take]
    by_cases hj : j < c
    · rw [if_pos hj]; exact pv_zero (by omega)
    · rw [if_neg hj]
def SolPost (w : World) (M : Mx) (c : Nat) (b : List Int) (e : Ending) (w' : World) : Prop :=
  ∃ H, HnfOf (c + M.length) (wideM M) H ∧ Ext w w' ∧
    ((¬ zeroL ((solL c H M.length b).take c) ∧ e = .returned (.tuple #[.slice none 0 0, .bool false, .int .i64 0]))
      ∨ (zeroL ((solL c H M.length b).take c) ∧ smallB (solX c H M.length b) = true ∧ ∃ v, e = .returned (.tuple #[v, .bool true, .int .i64 0]) ∧ RowV w.heap.size w' v (solX c H M.length b))
      ∨ (zeroL ((solL c H M.length b).take c) ∧ smallB (solX c H M.length b) = false ∧ e = .returned (.tuple #[.slice none 0 0, .bool false, .int .i64 4])))
theorem box_a {X W : World} {T : TypeId} {o : Obj} {v : Value} (h : Ext (((X.alloc (.cells #[v] T)).alloc o).drew) W) : W.cell? ⟨X.heap.size, 0, none⟩ = some v ∧ X.heap.size < W.heap.size :=
  ⟨h.cell (by go_simp), by have := h.size; simp at this; omega⟩
theorem box_b {X W : World} {T : TypeId} {o : Obj} {v : Value} (h : Ext (((X.alloc o).alloc (.cells #[v] T)).drew) W) : W.cell? ⟨X.heap.size + 1, 0, none⟩ = some v ∧ X.heap.size + 1 < W.heap.size :=
  ⟨h.cell (by go_simp), by have := h.size; simp at this; omega⟩
set_option maxRecDepth 100000 in
set_option maxHeartbeats 2000000 in
theorem Solve_any {w : World} {vm vb : Value} {M : Mx} {b : List Int} {c E : Nat} (hM : MatR w vm M) (hb : RowR w vb b) (hs0 : sizeE M b = 0) (h0 : 0 < M.length) (hc : c = ncols M) (hEe : E = bC M.length 30 (c + M.length))
    (hE : 2 * ((E + (E + 1) * M.length) + ((E + (E + 1) * M.length) + 1) * M.length) + 6 < LIM) (hL : Laid w) :
    Calls Tryz.prog 64 #[vm, vb] w (SolPost w M c b) := by
  obtain ⟨hck, hrk, hbl⟩ := sizeE_ok hs0
  obtain ⟨hl12, hn12, hRt, hent⟩ := checkM_ok hck
  obtain ⟨hb64, hbent⟩ := chkRow_ok hrk
  have hbc : b.length = c := by rw [hc]; exact hbl h0
  rw [← hc] at hn12 hRt
  have hsz := Lib.hid (sized_any hM hb)
  rw [hs0] at hsz
  obtain ⟨N, hN⟩ : ∃ N, N = M.length := ⟨_, rfl⟩
  have hwd := Lib.hid (fun W (hW : Ext w W) => wide_any (hM.ext hW) hRt h0 (by omega) (by omega) hent (by rw [← hEe]; have : (E + 1) * M.length ≥ (E + 1) * 1 := Nat.mul_le_mul_left _ h0; omega) (hL.ext hW))
  have hbig := Lib.hid (fun W (bx : Nat) (sb : Option Addr) (bb ob cb : Nat) (hW : Ext w W) (hS : Sl w sb bb ob (is b)) (hcb : b.length ≤ cb) (hbx : W.cell? ⟨bx, 0, none⟩ = some (.slice sb b.length cb)) =>
    sbig_any (w := W) (v := .slice (some ⟨bx, 0, none⟩) 1 1) (M := [b]) ⟨_, bx, 0, 1, [.slice sb b.length cb], rfl, Nat.le_refl _, rfl, ⟨fun _ => rfl, fun i x hx => by
      have : i = 0 := by have := (List.getElem?_eq_some_iff.1 hx).1; simp at this; omega
      subst this
      simp only [List.getElem?_cons_zero, Option.some.injEq] at hx
      rw [← hx]; exact hbx⟩, fun i a bb' => by
      have : i = 0 := by simp at a; omega
      subst this
      exact ⟨sb, bb, ob, cb, rfl, hcb, hS.ext hW⟩⟩ (by simp) (fun r hr => by simp at hr; subst hr; omega) (fun r hr z hz => by simp at hr; subst hr; have := hbent z hz; unfold I64; omega) (hL.ext hW))
  obtain ⟨sb, bb, ob, cb, rfl, hcb, hSb⟩ := hb
  obtain ⟨sa, gb, go, cap, vs, rfl, hcap, hvl, hS, hr⟩ := hM
  obtain rfl := hS.addr (by omega)
  have hrep := Lib.hid (fun W (bx : Nat) (hW : W.cell? ⟨bx, 0, none⟩ = some (I 0)) => repeat_any (m := N) (by omega) (b := bx) (o := 0) (c := 1) (z := 0) (w := W) hW)
  obtain ⟨s0, hs, hy0, hy1, hy2⟩ := info_parts Tryz.infoStr
  have HSb := Lib.hid hSb
  have HRt := Lib.hid hRt
  have Hent := Lib.hid hent
  have Hbent := Lib.hid hbent
  have HE := Lib.hid hE
  have HEe := Lib.hid hEe
  have HL := Lib.hid hL
  have HN := Lib.hid hN
  have Hbc := Lib.hid hbc
  have hN2 : 0 < N := by omega
  have hN12 : N ≤ 12 := by omega
  have hN0 : (N == 0) = false := beq_eq_false_iff_ne.2 (by omega)
  have hN1 : ((N : Int) == 0) = false := beq_eq_false_iff_ne.2 (by omega)
  have hz1 : I 0 = .string ⟨#[48]⟩ := by unfold I S; rw [itoa_zero]
  have Hz1 := Lib.hid hz1
  rw [← hN] at hsz hwd h0 hcap hl12 ⊢
  rw [hbc] at hsz hcb hbig ⊢
  clear hs0 hck hrk hbl hRt hent hbent hSb hE hEe hL hN hbc hS hvl hr hc hz1
  go_enter Tryz.func64, Tryz.ntmps64
  go_wp2_with fail
  refine hsz.out.mono ?_
  rintro e w1 ⟨rfl, hE1⟩
  go_wp2_with fail
  refine (hwd.out _ hE1).mono ?_
  rintro e w2 ⟨g, cp, H, rfl, hH, hHl, hG, hHb, hE2⟩
  rw [← HN.out] at hHl
  have hE12 := hE1.trans hE2
  have HH := Lib.hid hH
  have HG := Lib.hid hG
  have HHb := Lib.hid hHb
  clear hsz hwd hH hG hHb
  go_upto_region 7 with fail
  go_cut [10] from 32 to 42 (fun lv wx => ∃ gl cl, lv = slv gl (c + N) cl ∧ Hid (OwnV 80 w2.heap.size wx gl cl (ss (b ++ List.replicate N 0))) ∧ Ext w2 wx)
  case first =>
    have d7 : Ext w2 w2.drew := (Ext.refl w2).drew
    have hcbI : (c : Int) ≤ (cb : Int) := by omega
    have hNews : ∀ W gr cr, OwnV 80 0 W gr cr (ss (List.replicate N 0)) → ∀ (j : Nat) (u : Value), (ss (List.replicate N 0))[j]? = some u → W.cell? ((⟨gr, 0, none⟩ : Addr).add j) = some u := fun W gr cr hO j u hj => by
      have h2 := hO.sl.cell j u hj
      simpa [Addr.add_lit] using h2
    have HNews := Lib.hid hNews
    have HOne := Lib.hid (show ∀ u ∈ ss (List.replicate N 0), u.oneCell' = true from fun u hu => by
      obtain ⟨y, _, rfl⟩ := List.mem_map.1 hu
      rfl)
    have Hzl := Lib.hid (show (ss (List.replicate N 0)).length = N * 1 by rw [ss_length]; simp)
    clear hNews
    go_region_law (first
      | (go_simp; go_at_call 108; refine (hbig.out _ _ sb bb ob cb (hE12.trans (by first | exact ((Ext.refl w2).alloc _).drew | exact (((Ext.refl w2).alloc _).alloc _).drew)) HSb.out hcb (by go_simp)).mono ?_; rintro e W7 ⟨v1, ad1, rfl, hG7, hE7⟩; obtain ⟨ga1, cap1, rfl, hcap1, hs1⟩ := hG7.shape; obtain ⟨g1, rfl⟩ := hs1 (by simp); have HG7 := Lib.hid hG7; obtain ⟨gx, cx, _, hx1, hx2, _⟩ := hG7.hd (i := 0) (by simp); have HI7 := Lib.hid (show IntsV w2.heap.size W7 (xv b.length gx cx) b from IntsV.mono hx2 (by simp <;> omega)); obtain ⟨xa, xl, xk, hxv⟩ := xv_slice b.length gx cx; have Hxv := Lib.hid hxv; simp only [List.getD_cons_zero] at hx1; rw [hxv] at hx1; have hx1s : g1 < W7.heap.size := World.block_lt_of_cell? _ _ hx1; have h67 := Ext.trans (show Ext w2 _ by first | exact ((Ext.refl w2).alloc _).drew | exact (((Ext.refl w2).alloc _).alloc _).drew) hE7; clear hG7 hx2 hxv; (first | (have zz := box_a (v := .string ⟨#[48]⟩) hE7; obtain ⟨z7, z8⟩ := zz) | (have zz := box_b (v := .string ⟨#[48]⟩) hE7; obtain ⟨z7, z8⟩ := zz) | skip))
      | (go_simp; go_at_call 100; refine (hrep.out _ _ (by rw [Hz1.out]; first | exact z7 | go_simp)).mono ?_; rintro e W8 ⟨gr, cr, rfl, hO8, hE8⟩; have hx8 := hE8.cell (by first | exact hx1 | exact ((Ext.refl W7).alloc _).cell hx1); have h78 := Ext.trans (show Ext W7 _ by first | exact Ext.refl _ | exact (Ext.refl _).alloc _) hE8; have HN8 := Lib.hid (HNews.out _ _ _ (hO8.mono (Nat.zero_le _))); have HI8 := Lib.hid (show IntsV w2.heap.size W8 (xv b.length gx cx) b from HI7.out.ext h78); have h68 := Ext.trans h67 h78; have hs68 := h68.size; clear hO8)
      | (refine step_append_lies _ (by rfl) _ _ _ (by rfl) w2.heap.size 80 s0 _ 1 16 Tryz.underlying88 hs hy0 hy1 hy2 rfl (by omega) (xv b.length gx cx) b.length (ss b) (by rw [Hxv.out]; rfl) HI8.out ⟨gr, 0, none⟩ N cr (ss (List.replicate N 0)) (by rfl) Hzl.out HN8.out HOne.out hN2 (by have := Hbc.out; unfold maxLen; omega) (by have := Hbc.out; omega) hs68 W8.heap.size (by simp) ?_; intro gg cap9 w9 hown9 hgrow9 hat9 hlt9; have h9 : Ext w2 w9 := Ext.mk' (Below.grown h68 hgrow9 hs68 (fun q hq => (World.ownsRow.lt HI8.out q hq).1)); have H9 := Lib.hid (show OwnV 80 w2.heap.size w9 gg cap9 (ss (b ++ List.replicate N 0)) by unfold OwnV; rw [ss_append, List.length_append, Hzl.out, ss_length, Nat.mul_one]; exact hown9); clear hown9 hgrow9 hat9))
    all_goals (try go_wp2_with fail)
    all_goals go_meet
    all_goals exact ⟨gg, cap9, by rw [← Hbc.out], H9, h9⟩
  case rest =>
    obtain ⟨gl, cl, rfl, hO, hE3⟩ := hcut
    generalize wc = X at *
    have hE13 := hE12.trans hE3
    obtain ⟨ps, hI⟩ := HH.out.1
    have hup := upr_rows (c := c) hI
    rw [← HN.out] at hup
    have HRtH := Lib.hid (show Rect (c + N) H by have := hI.rect; rw [← HN.out] at this; exact this)
    have Hup := Lib.hid hup
    have HE0 := Lib.hid (show 30 ≤ E by rw [HEe.out]; have := bC_mono M.length 30 0 (c + M.length); rw [Nat.zero_add] at this; simpa [bC] using this)
    have HHb2 := Lib.hid (show ∀ r ∈ H, ∀ z ∈ r, z.natAbs < 2 ^ E by rw [HEe.out]; exact HHb.out)
    have hEn := HE.out
    rw [← HN.out] at hEn
    have HEN := Lib.hid hEn
    clear hI hup hEn
    obtain ⟨sg, bg, og, cg, vg, hgv, hgc, hgl, hgS, hgr⟩ := HG.out
    injection hgv with q1 _ q3
    subst q3
    have HgS := Lib.hid hgS
    have Hgl := Lib.hid hgl
    have Hgr := Lib.hid hgr
    have Hq1 := Lib.hid q1
    have hHc : (H.length : Int) ≤ (cp : Int) := by omega
    clear hgS hgl hgr q1
    go_wp2_with fail
    go_loopw [11, 44] (fun out idx wr => ∃ i : Nat, i ≤ H.length ∧ idx = .int .i64 i ∧ Hid (RdO X.heap.size X wr out (upr c (H.take i))) ∧ Ext X wr) (fun _ idx _ => H.length - (intOf idx).toNat)
    case atStart => exact ⟨0, by omega, by go_num, Lib.hid (RdO.nil _ _ _), Ext.refl _⟩
    case round =>
      obtain ⟨i, hi', rfl, hV, hE4⟩ := hrel
      generalize wr = Y at *
      by_cases hlt : i < H.length
      · have hii : (i : Int) < (H.length : Int) := by omega
        have hq := HgS.out.addr (by rw [Hgl.out]; omega)
        rw [← Hq1.out] at hq
        injection hq with hq
        injection hq with hq1 hq2
        obtain ⟨sr, br, or, cr, hrow, hrc, hSr⟩ := GridR.row HgS.out Hgl.out Hgr.out hlt
        rw [← hq1, ← hq2, Nat.zero_add] at hrow
        have hrl : H[i].length = c + N := HRtH.out _ (List.getElem_mem hlt)
        have hstep := upr_step (c := c) hlt
        obtain ⟨r, hr⟩ : ∃ r, r = H[i] := ⟨_, rfl⟩
        rw [← hr] at hrow hrc hSr hrl hstep
        rw [hrl] at hrow hrc
        have hrow' := (hE3.trans hE4).cell hrow
        obtain rfl := hSr.addr (by rw [ss_length]; omega)
        have Hrd := Lib.hid (show IntsR X (.slice (some ⟨br, or, none⟩) (c + N) cr) r from ⟨_, br, or, cr, by rw [hrl], by rw [hrl]; exact hrc, hSr.ext hE3⟩)
        have hld := Lib.hid (slead_any (w := Y) (cap := cr) (hSr.ext (hE3.trans hE4)) (by omega))
        rw [hrl] at hld
        have Hul := Lib.hid (show (upr c (H.take i)).length ≤ 1000000000 by have := upr_len c (H.take i); rw [List.length_take] at this; omega)
        clear hq1 hq2 hr hrow hrc hSr hrl
        obtain ⟨p, hp⟩ : ∃ p, p = pv r := ⟨_, rfl⟩
        rw [← hp] at hstep hld
        by_cases hpc : p < c
        · have hpi : (p : Int) < (c : Int) := by omega
          rw [if_pos hpc] at hstep
          have Hstep := Lib.hid hstep
          have hXY := hE4.size
          clear hstep hp hpc
          go_wp2_with fail
          refine hld.out.mono ?_
          rintro e W ⟨rfl, hW⟩
          have hWX := hW.size
          go_wp2_with (at_builtin; refine app_rd rfl _ _ rfl (B := X.heap.size) (w0 := X) rfl ((hV.out.ext hW).ext ((Ext.refl _).alloc _)) rfl (b := W.heap.size) (rv := .slice (some ⟨br, or, none⟩) (c + N) cr) (r := r) (by go_simp) Hrd.out Hul.out (by simp; omega) ?_; intro gg cap2 w8 hO8 hB8 hG8; rw [← Hstep.out] at hO8)
          have hE8 : Ext X w8 := Below.trans ((hE4.trans hW).alloc _) hB8
          have HO8 := Lib.hid hO8
          clear hG8 hB8 hO8
          go_wp2_with fail
          go_roundw
          case rel => exact ⟨i + 1, by omega, by go_num, Lib.hid (by
            have h1 := HO8.out
            rw [Hstep.out] at h1 ⊢
            simpa using h1), hE8⟩
          case measure => simp [intOf] <;> omega
        · have hpi : ¬ (p : Int) < (c : Int) := by omega
          rw [if_neg hpc] at hstep
          have Hstep := Lib.hid hstep
          clear hstep hp hpc
          go_wp2_with fail
          refine hld.out.mono ?_
          rintro e W ⟨rfl, hW⟩
          go_wp2_with fail
          go_roundw
          case rel => exact ⟨i + 1, by omega, by go_num, Lib.hid (by rw [Hstep.out]; exact hV.out.ext hW), hE4.trans hW⟩
          case measure => simp [intOf] <;> omega
      · have hie : i = H.length := by omega
        have hV2 := hV.out
        rw [hie, List.take_length] at hV2
        have hgrd := hV2.grid hE4
        have hii : ¬ (i : Int) < (H.length : Int) := by omega
        have hxl : (b ++ List.replicate N 0).length = c + N := by rw [List.length_append, Hbc.out, List.length_replicate]
        have hbx : ∀ z ∈ b ++ List.replicate N 0, z.natAbs < 2 ^ E := fun z hz => by
          have e : (2 : Nat) ^ 30 = 1073741824 := by decide
          have h3 : 2 ^ 30 ≤ 2 ^ E := Nat.pow_le_pow_right (by omega) HE0.out
          rcases List.mem_append.1 hz with hz | hz
          · have := Hbent.out z hz; omega
          · have := (List.mem_replicate.1 hz).2; omega
        have hul := upr_len c H
        have hmul : (E + 1) * (upr c H).length ≤ (E + 1) * N := Nat.mul_le_mul_left _ (by omega)
        have hred := Lib.hid (reduced_any (w := Y) hgrd Hup.out.1 ((hO.out.ext hE4).intsR hxl) hxl (by omega) (by omega) (by omega) (fun r hr => (Hup.out.2 r hr).2) (fun r hr => HHb2.out r (List.mem_filter.1 hr).1) hbx (by have := HEN.out; omega) (HL.out.ext (hE13.trans hE4)))
        have hl1b := Lib.hid (show ∀ z ∈ solL c H N b, z.natAbs < 2 ^ (E + (E + 1) * N) from fun z hz => by
          have h3 := redX_bits (F := upr c H) (x := b ++ List.replicate N 0) (E := E) (fun r hr => by rw [Hup.out.1 r hr]; exact (Hup.out.2 r hr).2) (fun r hr => HHb2.out r (List.mem_filter.1 hr).1) hbx (upr c H).length (Nat.le_refl _) z (by rw [List.take_length]; exact hz)
          exact Nat.lt_of_lt_of_le h3 (Nat.pow_le_pow_right (by omega) (by omega)))
        have hEY := hE13.trans hE4
        rw [show redX (upr c H) (b ++ List.replicate N 0) = solL c H N b from rfl] at hred
        clear hie hV hV2 hgrd hxl hbx hul hmul hlt hO
        go_wp2_with fail
        refine hred.out.mono ?_
        rintro e w4 ⟨gx, cx, rfl, hX4, hE5⟩
        obtain ⟨l1, hl1⟩ : ∃ l1, l1 = solL c H N b := ⟨_, rfl⟩
        rw [← hl1] at hX4 hl1b
        have hl1l : l1.length = c + N := by rw [hl1, solL_length, Hbc.out]
        have hgl := hX4.lt
        have hcx := hX4.cap
        rw [ss_length, hl1l] at hcx
        have HX4 := Lib.hid hX4
        have Hl1 := Lib.hid hl1
        have Hl1l := Lib.hid hl1l
        have hld := Lib.hid (slead_any (w := w4) (cap := cx) hX4.sl (by omega : l1.length ≤ 1000000))
        rw [hl1l] at hld
        have hdec := pv_lt_take (l := l1) (c := c) (by omega)
        have Hdec := Lib.hid hdec
        obtain ⟨p, hp⟩ : ∃ p, p = pv l1 := ⟨_, rfl⟩
        rw [← hp] at hld Hdec
        have hE6 := hEY.trans hE5
        clear hX4 hl1 hl1l hdec hp hred
        by_cases hpc : p < c
        · have hpi : (p : Int) < (c : Int) := by omega
          have hnz := Hdec.out.1 hpc
          have Hres := Lib.hid (fun W (hW : Ext w4 W) => show SolPost w M c b (.returned (.tuple #[.slice none 0 0, .bool false, .int .i64 0])) W from ⟨H, HH.out, hE6.trans hW, .inl ⟨by rw [← HN.out, ← Hl1.out]; exact hnz, rfl⟩⟩)
          clear hpc hnz
          go_wp2_with fail
          refine hld.out.mono ?_
          rintro e w5 ⟨rfl, hE7⟩
          go_wp2_with fail
          go_ret3
          exact Hres.out _ hE7
        · have hpi : ¬ (p : Int) < (c : Int) := by omega
          have HZ := Lib.hid (show zeroL (l1.take c) from Classical.byContradiction fun h => hpc (Hdec.out.2 h))
          have hE1' : 2 * (E + (E + 1) * N) + 2 < LIM := by have := HEN.out; omega
          have htn := Lib.hid (fun W (hW : Ext w4 W) => sturn_part (B := Y.heap.size) (w := W) (o := c) (n := N) (cp := cx - c) (HX4.out.ext hW) (by rw [Hl1l.out]) (by omega) (fun z hz => by have := nd_lt2 (hl1b.out z hz); omega))
          have hcI : (c : Int) ≤ ((c + N : Nat) : Int) := by omega
          have hcI2 : (c : Int) ≤ (cx : Int) := by omega
          have hcast : ((c + N : Nat) : Int) = (c : Int) + (N : Int) := by omega
          have hcne : ¬ cx = c := by omega
          have hcne2 : ¬ cx - c = 0 := by omega
          clear hpc
          go_wp2_with fail
          refine hld.out.mono ?_
          rintro e w5 ⟨rfl, hE7⟩
          have hE57 := hE6.trans hE7
          go_wp2_with fail
          refine (htn.out _ hE7).mono ?_
          rintro e w6 ⟨rfl, hX6, hG6⟩
          have hE8 : Ext X w6 := ext_trans_grown (((hE4.trans hE5).trans hE7)) hG6 (by have := hE4.size; omega)
          have hE38 := hE3.trans hE8
          have hE18 := hE13.trans hE8
          have hx0l : (negM (l1.drop c)).length = N := by rw [negM_length, List.length_drop, Hl1l.out]; omega
          have hxx : l1.take c ++ (l1.drop c).map (fun z => -z) = l1.take c ++ negM (l1.drop c) := rfl
          have htl : (l1.take c).length = c := by rw [List.length_take, Hl1l.out]; omega
          rw [hxx] at hX6
          have hxr : IntsR w6 (.slice (some ⟨gx, c, none⟩) N (cx - c)) (negM (l1.drop c)) := by
            refine ⟨_, gx, c, cx - c, by rw [hx0l], by rw [hx0l]; omega, ?_⟩
            have := hX6.sl.drop (c := c) (ga' := some ⟨gx, 0 + c, none⟩) rfl
            rw [ss_drop, List.drop_left' htl, Nat.zero_add] at this
            exact this
          have Hxr := Lib.hid hxr
          have Hx0l := Lib.hid hx0l
          have hx0b : ∀ z ∈ negM (l1.drop c), z.natAbs < 2 ^ (E + (E + 1) * N) := fun z hz => by
            obtain ⟨y, hy, rfl⟩ := List.mem_map.1 hz
            rw [Int.natAbs_neg]; exact hl1b.out y (List.mem_of_mem_drop hy)
          have Hx0b := Lib.hid hx0b
          obtain ⟨qs, hK, _⟩ := krn_form HRt.out HH.out
          have HK := Lib.hid hK
          have hkl := krn_len2 c H
          have Hkb := Lib.hid (show ∀ r ∈ krn c H, ∀ z ∈ r, z.natAbs < 2 ^ (E + (E + 1) * N) from fun r hr z hz => by
            obtain ⟨s, hs, rfl⟩ := List.mem_map.1 hr
            have := HHb2.out s (List.mem_filter.1 hs).1 z (List.mem_of_mem_drop hz)
            exact Nat.lt_of_lt_of_le this (Nat.pow_le_pow_right (by omega) (by omega)))
          have hkr := Lib.hid (kernel_any (w := w6) (c := c) (m := N) (HG.out.ext hE38) HRtH.out hN2 (by omega) (by omega))
          have hmul : (E + (E + 1) * N + 1) * (krn c H).length ≤ (E + (E + 1) * N + 1) * N := Nat.mul_le_mul_left _ (by omega)
          have hrd2 := Lib.hid (fun W vF (hW : Ext w6 W) (hF : GridR W vF (krn c H)) => reduced_any (w := W) (m := N) hF (by have := HK.out.rect; rw [← HN.out] at this; exact this) (Hxr.out.ext hW) Hx0l.out hN2 (by omega) (by omega) (fun r hr => by
            obtain ⟨i, hi, rfl⟩ := List.getElem_of_mem hr
            have := HK.out.lt i hi
            rw [HK.out.pvs hi, getD_get hi, ← HN.out] at this
            exact this) Hkb.out Hx0b.out (by have := HEN.out; omega) (HL.out.ext (hE18.trans hW)))
          have hsolx : redX (krn c H) (negM (l1.drop c)) = solX c H N b := by rw [Hl1.out]; rfl
          rw [hsolx] at hrd2
          have Hsb := Lib.hid (show ∀ z ∈ solX c H N b, nd z ≤ LIM from fun z hz => by
            have h3 := redX_bits (F := krn c H) (x := negM (l1.drop c)) (E := E + (E + 1) * N) (fun r hr => by
              obtain ⟨i, hi, rfl⟩ := List.getElem_of_mem hr
              have h4 := HK.out.lt i hi
              rw [HK.out.pvs hi, getD_get hi, ← HN.out] at h4
              have h5 : (krn c H)[i].length = N := by have := HK.out.rect _ (List.getElem_mem hi); rw [← HN.out] at this; exact this
              omega) Hkb.out Hx0b.out (krn c H).length (Nat.le_refl _) z (by rw [List.take_length, hsolx]; exact hz)
            have := nd_lt2 h3
            have := HEN.out
            omega)
          have hsxl : (solX c H N b).length = N := solX_length Hbc.out
          have Hsxl := Lib.hid hsxl
          have hsml := Lib.hid (fun W bx gz cz (hW : Ext w6 W) (hZ : OwnV 80 0 W gz cz (ss (solX c H N b))) (hbx : W.cell? ⟨bx, 0, none⟩ = some (slv gz N cz)) =>
            ssmall_any (w := W) (v := .slice (some ⟨bx, 0, none⟩) 1 1) (M := [solX c H N b]) ⟨_, bx, 0, 1, [slv gz N cz], rfl, Nat.le_refl _, rfl, ⟨fun _ => rfl, fun i x hx => by
              have : i = 0 := by have := (List.getElem?_eq_some_iff.1 hx).1; simp at this; omega
              subst this
              simp only [List.getElem?_cons_zero, Option.some.injEq] at hx
              rw [← hx]; exact hbx⟩, fun i a bb' => by
              have : i = 0 := by simp at a; omega
              subst this
              exact hZ.intsR Hsxl.out⟩ (by simp) (fun r hr => by simp at hr; subst hr; rw [Hsxl.out]; omega) (fun r hr z hz => by simp at hr; subst hr; exact Hsb.out z hz) (HL.out.ext (hE18.trans hW)))
          have HZ2 := Lib.hid (show zeroL ((solL c H M.length b).take c) by rw [← HN.out, ← Hl1.out]; exact HZ.out)
          clear hX6 hxr hx0l hx0b hK hkl hmul hsolx hsxl hxx htl htn hld
          go_wp2_with fail
          refine hkr.out.mono ?_
          rintro e w7 ⟨vK, rfl, hgK, hE9⟩
          obtain ⟨ka, kb, ko, kc, kv, hkv, hk2⟩ := id hgK
          have HgK := Lib.hid hgK
          clear hgK hk2
          subst hkv
          go_wp2_with fail
          refine (hrd2.out _ _ hE9 HgK.out).mono ?_
          rintro e w8 ⟨gz, cz, rfl, hZ8, hE10⟩
          have HZ8 := Lib.hid (hZ8.mono (Nat.zero_le _))
          clear hZ8
          have hE610 := hE9.trans hE10
          go_wp2_with fail
          refine (hsml.out _ w8.heap.size gz cz (hE610.alloc _) (HZ8.out.ext ((Ext.refl _).alloc _)) (by go_simp)).mono ?_
          rintro e w9 ⟨hp9, hE11⟩
          have hfin := hE18.trans ((hE610.alloc _).trans hE11)
          cases hs : smallB (solX c H N b)
          · have hsm : smallM [solX c H N b] = false := by simp [smallM, hs]
            rw [if_neg (by rw [hsm]; decide)] at hp9
            subst hp9
            have Hres := Lib.hid (show SolPost w M c b (.returned (.tuple #[.slice none 0 0, .bool false, .int .i64 4])) w9 from ⟨H, HH.out, hfin, .inr (.inr ⟨HZ2.out, by rw [← HN.out]; exact hs, rfl⟩)⟩)
            clear hs hsm
            go_wp2_with fail
            go_ret3
            exact Hres.out
          · have hsm : smallM [solX c H N b] = true := by simp [smallM, hs]
            rw [if_pos hsm] at hp9
            obtain ⟨vr, rfl, hvr⟩ := hp9
            obtain ⟨vs9, hv1, hv2, hv3⟩ := hvr
            have h90 := hv3 0 (by simp) (by rw [hv1]; simp)
            rcases hv2.2 with ⟨_, h0'⟩ | ⟨g9, c9, cur9, rfl, _, _, hc9, _⟩
            · simp at h0'
            · have hc9' := World.ownsRow.cellAt hv2 0 (by simp)
              rw [List.getElem?_eq_getElem (by rw [hv1]; simp)] at hc9'
              simp only [List.length_singleton] at hc9 hc9'
              obtain ⟨rv, hrv⟩ : ∃ rv, rv = vs9[0]'(by rw [hv1]; simp) := ⟨_, rfl⟩
              rw [← hrv] at hc9' h90
              have hc10 : w9.cell? ⟨g9, 0, none⟩ = some rv := by simpa using hc9'
              have hsz8 := (hE18.trans (hE610.alloc (.cells #[slv gz N cz] 88))).size
              have Hres := Lib.hid (show SolPost w M c b (.returned (.tuple #[rv, .bool true, .int .i64 0])) w9 from ⟨H, HH.out, hfin, .inr (.inl ⟨HZ2.out, by rw [← HN.out]; exact hs, rv, rfl, by rw [← HN.out]; exact RowV.mono h90 hsz8⟩)⟩)
              clear hs hsm h90 hv1 hv2 hv3 hrv hc9'
              go_wp2_with fail
              go_ret3
              exact Hres.out
end Go.Proofs.YtkjnjmihfonilaaGreatDoor
namespace Go.Proofs.YtkjnjmihfonilaaGreatDoor
open Go.RowKit Go.Sort
theorem same_yes {w : World} {va vb : Value} {a b : List Int} (hA : RowR w va a) (hB : RowR w vb b) (hl : a.length ≤ 1000000) (he : a = b) : Calls Tryz.prog 19 #[va, vb] w fun e w' => e = .returned (.bool true) ∧ Ext w w' := by
  have h := Same_any hA hB hl
  rw [decide_eq_true he] at h
  exact h
def mtL : Mx := [[0, 0, 0], [-1, 1, 0], [-2, 0, 1], [1, 1, -1]]
def mtE : Mx := [[1, 0, 0], [-1, 1, 0]]
theorem mt_solve {w : World} {v vb : Value} (hv : MatR w v [[1, 0], [-1, 1]]) (hb : RowR w vb [-6, 4]) (hL : Laid w) :
    Calls Tryz.prog 64 #[v, vb] w fun e w' => (∃ a f c, e = .returned (.tuple #[a, .bool f, .int .i64 c]) ∧ (f = true ∧ c = 0 ∧ RowR w' a [-2, 4])) ∧ Ext w w' := by
  have hR : Rect 2 ([[1, 0], [-1, 1]] : Mx) := by unfold Rect; decide
  refine (Solve_any (M := [[1, 0], [-1, 1]]) (b := [-6, 4]) (c := 2) (E := bC 2 30 4) hv hb (by decide) (by decide) rfl rfl (by decide) hL).mono ?_
  rintro e w' ⟨H, hH, hE, hp⟩
  have hz := (sol_zero (c := 2) hR hH rfl).2 mt_span
  have hc := solX_cmb (c := 2) hR hH rfl hz
  have hx : solX 2 H 2 [-6, 4] = [-2, 4] := mt_cmb (solX_length rfl) hc
  rcases hp with ⟨h4, _⟩ | ⟨_, _, u, rfl, hu⟩ | ⟨_, h4, _⟩
  · exact absurd hz h4
  · refine ⟨⟨u, true, 0, rfl, rfl, rfl, ?_⟩, hE⟩
    have h := hu.row
    rw [show ([[1, 0], [-1, 1]] : Mx).length = 2 from rfl, hx] at h
    exact h
  · exfalso
    rw [show ([[1, 0], [-1, 1]] : Mx).length = 2 from rfl, hx] at h4
    revert h4; decide
set_option maxRecDepth 100000 in
set_option maxHeartbeats 8000000 in
theorem known20_any {w : World} (hL : Laid w) : Calls Tryz.prog 9 #[] w fun e w' => e = .returned (.bool true) ∧ Ext w w' := by
  have HL := Lib.hid hL
  clear hL
  go_enter Tryz.func9, Tryz.ntmps9
  go_wp2_with fail
  refine meantone20_any.mono ?_
  rintro e W1 ⟨t, rfl, ht, hE1⟩
  obtain ⟨sp, cp, sc, lc, cc, sm, lm, cm, rfl, hT⟩ := ht.open
  have HT := Lib.hid hT
  have e1 := hE1.alloc (.cells #[.slice sp mtP.length cp, .slice sc lc cc, .slice sm lm cm] 34)
  have ea := (Ext.refl W1).alloc (.cells #[.slice sp mtP.length cp, .slice sc lc cc, .slice sm lm cm] 34)
  have HO := Lib.hid (gOf_any (hT.ext ea) (HL.out.ext e1))
  have x0 : (W1.alloc (.cells #[.slice sp mtP.length cp, .slice sc lc cc, .slice sm lm cm] 34)).cell? ⟨W1.heap.size, 0, none⟩ = some (.slice sp mtP.length cp) := by go_simp
  have x1 : (W1.alloc (.cells #[.slice sp mtP.length cp, .slice sc lc cc, .slice sm lm cm] 34)).cell? ⟨W1.heap.size, 1, none⟩ = some (.slice sc lc cc) := by go_simp
  have x2 : (W1.alloc (.cells #[.slice sp mtP.length cp, .slice sc lc cc, .slice sm lm cm] 34)).cell? ⟨W1.heap.size, 2, none⟩ = some (.slice sm lm cm) := by go_simp
  clear hT ht hE1
  go_wp2_with fail
  refine HO.out.mono ?_
  rintro e W2 ⟨hE2, (⟨k1, _⟩ | ⟨_, fa, fb, hfa, hfb, rfl⟩)⟩
  · exact absurd (show twE mtM = 0 by decide) k1
  · obtain ⟨sa, ga, oa, ca, rfl, _, _⟩ := hfa
    obtain ⟨sb, gb, ob, cb, hvb, _, _⟩ := id hfb
    subst hvb
    have Hfb := Lib.hid (show RowR W2 (.slice sb 3 cb) [0, 1, 4] from hfb)
    rw [show eM mtM 0 0 = 1 by decide, show (List.getD mtM 0 []).length = 3 from rfl, show (List.getD mtM 1 []).length = 3 from rfl]
    have e2 := e1.trans hE2
    have y0 := hE2.cell x0
    have y1 := hE2.cell x1
    have y2 := hE2.cell x2
    clear x0 x1 x2 HO hfb
    obtain ⟨A, hA⟩ : ∃ W, W = ((((((W2.alloc (.cells #[.int .i64 1, .slice sa 3 ca, .slice sb 3 cb] 69)).alloc (.cells #[.int .i64 0, .int .i64 0, .int .i64 0] 3)).alloc (.cells #[.int .i64 (-1), .int .i64 1, .int .i64 0] 3)).alloc (.cells #[.int .i64 (-2), .int .i64 0, .int .i64 1] 3)).alloc (.cells #[.int .i64 1, .int .i64 1, .int .i64 (-1)] 3)).alloc (.cells #[.slice (some ⟨W2.heap.size + 1, 0, none⟩) 3 3, .slice (some ⟨W2.heap.size + 1 + 1, 0, none⟩) 3 3, .slice (some ⟨W2.heap.size + 1 + 1 + 1, 0, none⟩) 3 3, .slice (some ⟨W2.heap.size + 1 + 1 + 1 + 1, 0, none⟩) 3 3] 26)) := ⟨_, rfl⟩
    have eA : Ext W2 A := by rw [hA]; exact ((((((Ext.refl W2).alloc _).alloc _).alloc _).alloc _).alloc _).alloc _
    have a0 : RowR A (.slice (some ⟨W2.heap.size + 1, 0, none⟩) 3 3) [0, 0, 0] := by rw [hA]; exact row3N (by go_simp) (by go_simp) (by go_simp)
    have a1 : RowR A (.slice (some ⟨W2.heap.size + 1 + 1, 0, none⟩) 3 3) [-1, 1, 0] := by rw [hA]; exact row3N (by go_simp) (by go_simp) (by go_simp)
    have a2 : RowR A (.slice (some ⟨W2.heap.size + 1 + 1 + 1, 0, none⟩) 3 3) [-2, 0, 1] := by rw [hA]; exact row3N (by go_simp) (by go_simp) (by go_simp)
    have a3 : RowR A (.slice (some ⟨W2.heap.size + 1 + 1 + 1 + 1, 0, none⟩) 3 3) [1, 1, -1] := by rw [hA]; exact row3N (by go_simp) (by go_simp) (by go_simp)
    have a5 : MatR A (.slice (some ⟨W2.heap.size + 1 + 1 + 1 + 1 + 1, 0, none⟩) 4 4) mtL := mat4N (by rw [hA]; go_simp) (by rw [hA]; go_simp) (by rw [hA]; go_simp) (by rw [hA]; go_simp) a0 a1 a2 a3
    have fA0 : A.cell? ⟨W2.heap.size, 0, none⟩ = some (.int .i64 1) := by rw [hA]; go_simp
    have fA2 : A.cell? ⟨W2.heap.size, 2, none⟩ = some (.slice sb 3 cb) := by rw [hA]; go_simp
    have HS := Lib.hid (gSpan_any ((HT.out.ext (ea.trans hE2)).ext eA) a5 (HL.out.ext (e2.trans eA)) (by decide))
    rw [hA] at HS
    have z0 := eA.cell y0
    have z1 := eA.cell y1
    have z2 := eA.cell y2
    have ef := (Ext.refl W2).alloc (.cells #[.int .i64 1, .slice sa 3 ca, .slice sb 3 cb] 69)
    have v0 := ef.cell y0
    have v1 := ef.cell y1
    have v2 := ef.cell y2
    have e3 := e2.trans eA
    clear a0 a1 a2 a3 a5
    go_wp2_with fail
    refine HS.out.mono ?_
    rw [← hA]
    clear hA HS
    rintro e W3 ⟨hE3, rfl⟩
    have hsp : (if twE mtM = 0 then (if fbE mtP.length mtL = 0 then (if mtL.length = 0 then #[Value.int .i64 0, .int .i64 0, .int .i64 13] else (if allS mtM mtL = true then #[.int .i64 (mnG mtM mtL mtL.length), .int .i64 (mxG mtM mtL mtL.length), .int .i64 0] else #[.int .i64 0, .int .i64 0, .int .i64 4])) else #[.int .i64 0, .int .i64 0, .int .i64 (fbE mtP.length mtL)]) else #[.int .i64 0, .int .i64 0, .int .i64 (twE mtM)]) = #[.int .i64 (-3), .int .i64 4, .int .i64 0] := by
      rw [if_pos (by decide), if_pos (by decide), if_neg (by decide), if_pos (by decide), show mnG mtM mtL mtL.length = -3 by decide, show mxG mtM mtL mtL.length = 4 by decide]
    rw [hsp]
    clear hsp
    replace z0 := hE3.cell z0
    replace z1 := hE3.cell z1
    replace z2 := hE3.cell z2
    replace fA0 := hE3.cell fA0
    replace fA2 := hE3.cell fA2
    replace e3 := e3.trans hE3
    have HT3 := Lib.hid ((((HT.out.ext (ea.trans hE2)).ext eA).ext hE3))
    have Hfb3 := Lib.hid ((Hfb.out.ext eA).ext hE3)
    clear hE3 eA hE2 ea HT Hfb y0 y1 y2 e1 e2 ef v0 v1 v2
    generalize W1.heap.size = bt at *
    generalize W2.heap.size = bf at *
    obtain ⟨B, hB⟩ : ∃ W, W = (W3.alloc (.cells #[.int .i64 (-6), .int .i64 4] 3)) := ⟨_, rfl⟩
    have eB : Ext W3 B := by rw [hB]; exact (Ext.refl W3).alloc _
    have b0 : RowR B (.slice (some ⟨W3.heap.size, 0, none⟩) 2 2) [-6, 4] := by rw [hB]; exact row2N (by go_simp) (by go_simp)
    have HLe := Lib.hid (gLeast_any (most := 4) (HT3.out.ext eB) b0 (HL.out.ext (e3.trans eB)))
    rw [hB] at HLe
    have p0 := z0
    have p1 := z1
    have p2 := z2
    replace z0 := eB.cell z0
    replace z1 := eB.cell z1
    replace z2 := eB.cell z2
    replace fA0 := eB.cell fA0
    replace fA2 := eB.cell fA2
    replace e3 := e3.trans eB
    go_wp2_with fail
    refine HLe.out.mono ?_
    rw [← hB]
    clear hB HLe b0
    rintro e W4 ⟨hE4, (⟨k1, _⟩ | ⟨_, L, hLe, hLd⟩)⟩
    · exact absurd (show bxE mtP.length mtM [-6, 4] 4 = 0 by decide) k1
    rw [show bxL mtM [-6, 4] mtP.length (4 : Int).toNat ((2 * (4 : Int).toNat + 1) ^ mtP.length) = [[-2, 0, 1], [2, -4, 2]] from mt_box] at hLe
    subst hLe
    rcases hLd with ⟨h0, _⟩ | ⟨_, s, n, c, rfl, hR⟩
    · exact absurd h0 (by decide)
    rw [show ([[-2, 0, 1], [2, -4, 2]] : Mx).length = 2 from rfl, mt_best] at hR
    have HR4 := Lib.hid (show RowR W4 (.slice s n c) [-2, 0, 1] from hR)
    replace z0 := hE4.cell z0
    replace z1 := hE4.cell z1
    replace z2 := hE4.cell z2
    replace fA0 := hE4.cell fA0
    replace fA2 := hE4.cell fA2
    replace e3 := e3.trans hE4
    have HT4 := Lib.hid ((HT3.out.ext eB).ext hE4)
    have Hfb4 := Lib.hid ((Hfb3.out.ext eB).ext hE4)
    clear hE4 eB HT3 Hfb3 hR p0 p1 p2
    obtain ⟨C, hC⟩ : ∃ W, W = ((((W4.alloc (.cells #[.int .i64 1, .int .i64 0, .int .i64 0] 3)).alloc (.cells #[.int .i64 (-1), .int .i64 1, .int .i64 0] 3)).alloc (.cells #[.slice (some ⟨W4.heap.size, 0, none⟩) 3 3, .slice (some ⟨W4.heap.size + 1, 0, none⟩) 3 3] 26)).alloc (.cells #[.int .i64 (-6), .int .i64 4] 3)) := ⟨_, rfl⟩
    have eC : Ext W4 C := by rw [hC]; exact ((((Ext.refl W4).alloc _).alloc _).alloc _).alloc _
    have c0 : RowR C (.slice (some ⟨W4.heap.size, 0, none⟩) 3 3) [1, 0, 0] := by rw [hC]; exact row3N (by go_simp) (by go_simp) (by go_simp)
    have c1 : RowR C (.slice (some ⟨W4.heap.size + 1, 0, none⟩) 3 3) [-1, 1, 0] := by rw [hC]; exact row3N (by go_simp) (by go_simp) (by go_simp)
    have c2 : MatR C (.slice (some ⟨W4.heap.size + 1 + 1, 0, none⟩) 2 2) mtE := mat2N (by rw [hC]; go_simp) (by rw [hC]; go_simp) c0 c1
    have c3 : RowR C (.slice (some ⟨W4.heap.size + 1 + 1 + 1, 0, none⟩) 2 2) [-6, 4] := by rw [hC]; exact row2N (by go_simp) (by go_simp)
    have HEx := Lib.hid (gExpress_u (R := fun a f c w' => f = true ∧ c = 0 ∧ RowR w' a [-2, 4]) (HT4.out.ext eC) c2 c3 (HL.out.ext (e3.trans eC)) (by decide) (by decide) (by decide) (by decide) (fun W v hW hv => mt_solve (by rw [show mtE.map (tmpL mtM) = [[1, 0], [-1, 1]] by decide] at hv; exact hv) (c3.ext hW) ((HL.out.ext (e3.trans eC)).ext hW)))
    rw [hC] at HEx
    have p0 := z0
    have p1 := z1
    have p2 := z2
    replace z0 := eC.cell z0
    replace z1 := eC.cell z1
    replace z2 := eC.cell z2
    replace fA0 := eC.cell fA0
    replace fA2 := eC.cell fA2
    replace e3 := e3.trans eC
    go_wp2_with fail
    refine HEx.out.mono ?_
    rw [← hC]
    clear hC HEx c0 c1 c2 c3
    rintro e W5 ⟨⟨xa, f, c9, rfl, rfl, rfl, hX5⟩, hE5⟩
    obtain ⟨sx, gx, ox, cx, rfl, _, _⟩ := id hX5
    have HX5 := Lib.hid (show RowR W5 (.slice sx 2 cx) [-2, 4] from hX5)
    replace z0 := hE5.cell z0
    replace z1 := hE5.cell z1
    replace z2 := hE5.cell z2
    replace fA0 := hE5.cell fA0
    replace fA2 := hE5.cell fA2
    replace e3 := e3.trans hE5
    have HR5 := Lib.hid ((HR4.out.ext eC).ext hE5)
    have Hfb5 := Lib.hid ((Hfb4.out.ext eC).ext hE5)
    clear hE5 eC HT4 Hfb4 HR4 hX5 z0 z1 z2 p0 p1 p2
    rw [show ([-2, 4] : List Int).length = 2 from rfl]
    obtain ⟨D, hD⟩ : ∃ W, W = (W5.alloc (.cells #[.int .i64 0, .int .i64 1, .int .i64 4] 3)) := ⟨_, rfl⟩
    have eD : Ext W5 D := by rw [hD]; exact (Ext.refl W5).alloc _
    have d0 : RowR D (.slice (some ⟨W5.heap.size, 0, none⟩) 3 3) [0, 1, 4] := by rw [hD]; exact row3N (by go_simp) (by go_simp) (by go_simp)
    have Hs1 := Lib.hid (same_yes (Hfb5.out.ext eD) d0 (by decide) rfl)
    rw [hD] at Hs1
    have fD0 := eD.cell fA0
    have fD2 := eD.cell fA2
    go_wp2_with fail
    refine Hs1.out.mono ?_
    rw [← hD]
    rintro e W6 ⟨rfl, hE6⟩
    replace e3 := (e3.trans eD).trans hE6
    have HR6 := Lib.hid ((HR5.out.ext eD).ext hE6)
    have HX6 := Lib.hid ((HX5.out.ext eD).ext hE6)
    clear hD Hs1 d0 eD hE6 HR5 HX5 Hfb5 fA0 fA2 fD0 fD2
    obtain ⟨E, hE⟩ : ∃ W, W = (W6.alloc (.cells #[.int .i64 (-2), .int .i64 0, .int .i64 1] 3)) := ⟨_, rfl⟩
    have eE : Ext W6 E := by rw [hE]; exact (Ext.refl W6).alloc _
    have d0 : RowR E (.slice (some ⟨W6.heap.size, 0, none⟩) 3 3) [-2, 0, 1] := by rw [hE]; exact row3N (by go_simp) (by go_simp) (by go_simp)
    have Hs1 := Lib.hid (same_yes (HR6.out.ext eE) d0 (by decide) rfl)
    rw [hE] at Hs1
    go_wp2_with fail
    refine Hs1.out.mono ?_
    rw [← hE]
    rintro e W7 ⟨rfl, hE7⟩
    replace e3 := (e3.trans eE).trans hE7
    have HX7 := Lib.hid ((HX6.out.ext eE).ext hE7)
    clear hE Hs1 d0 eE hE7 HR6 HX6
    obtain ⟨F, hF⟩ : ∃ W, W = (W7.alloc (.cells #[.int .i64 (-2), .int .i64 4] 3)) := ⟨_, rfl⟩
    have eF : Ext W7 F := by rw [hF]; exact (Ext.refl W7).alloc _
    have d0 : RowR F (.slice (some ⟨W7.heap.size, 0, none⟩) 2 2) [-2, 4] := by rw [hF]; exact row2N (by go_simp) (by go_simp)
    have Hs1 := Lib.hid (same_yes (HX7.out.ext eF) d0 (by decide) rfl)
    rw [hF] at Hs1
    go_wp2_with fail
    refine Hs1.out.mono ?_
    rw [← hF]
    rintro e W8 ⟨rfl, hE8⟩
    replace e3 := (e3.trans eF).trans hE8
    go_wp2_with fail
    go_ret
    exact ⟨rfl, e3⟩
end Go.Proofs.YtkjnjmihfonilaaGreatDoor
namespace Go.Proofs.YtkjnjmihfonilaaGreatDoor
open Go.RowKit Go.Sort
set_option maxRecDepth 100000 in
theorem fits18_any {w : World} {b : Int} {rv : Value} {Z : List (List Int)} {vals : Bool} (hR : RowsA w rv Z) :
    Calls Tryz.prog 10 #[.agg #[.int .u8 b, rv, .bool vals]] w fun e w' => e = .returned (.bool (decide (Z.length ≤ 3))) ∧ Ext w w' := by
  obtain ⟨sa, gb, go, cap, rfl, k1, k2, k3, k4⟩ := hR
  clear k1 k2 k3 k4
  have hX := (Ext.refl w).alloc (.cells #[.int .u8 b, .slice sa Z.length cap, .bool vals] 24)
  have hd : decide (Z.length ≤ 3) = decide ((Z.length : Int) ≤ 3) := by rw [decide_eq_decide]; omega
  rw [hd]
  generalize Z.length = n at *
  clear hd
  go_enter Tryz.func10, Tryz.ntmps10
  go_wp2_with fail
  go_ret
  exact ⟨rfl, hX⟩
end Go.Proofs.YtkjnjmihfonilaaGreatDoor
