/- Part 21 of the proof of the claim: contracts of the functions that it reaches, and plain laws; no condition. -/
import Derived.Test.YtokjolmpdfmnbaaGreatDoorU20
import Derived.Deep.RegionHeld3
import Derived.Deep.CutRange
import Derived.BigQuiet
namespace Go.Proofs.YtokjolmpdfmnbaaGreatDoor
open Go.RowKit Go.Sort
theorem upr_step {c i : Nat} {H : Mx} (h : i < H.length) : upr c (H.take (i + 1)) = if pv H[i] < c then upr c (H.take i) ++ [H[i]] else upr c (H.take i) := by
  unfold upr
  rw [take_snocM h, List.filter_append]
  by_cases hp : pv H[i] < c
  · rw [if_pos hp, List.filter_cons_of_pos (by simp [hp])]; simp
  · rw [if_neg hp, List.filter_cons_of_neg (by simp [hp])]; simp
theorem upr_len (c : Nat) (H : Mx) : (upr c H).length ≤ H.length := List.length_filter_le _ _
theorem krn_len2 (c : Nat) (H : Mx) : (krn c H).length ≤ H.length := by unfold krn low; rw [List.length_map]; exact List.length_filter_le _ _
theorem pv_lt_take {l : List Int} {c : Nat} (hc : c ≤ l.length) : pv l < c ↔ ¬ zeroL (l.take c) := by
  constructor
  · intro h hz
    have := zero_vr.1 hz (pv l)
    rw [vr_take, if_pos h] at this
    exact pv_ne (by omega) this
  · intro h
    refine Classical.byContradiction fun hc2 => h (zero_vr.2 fun j => ?_)
    rw [vr_take]
    by_cases hj : j < c
    · rw [if_pos hj]; exact pv_zero (by omega)
    · rw [if_neg hj]
def SolPost (w : World) (M : Mx) (c : Nat) (b : List Int) (e : Ending) (w' : World) : Prop :=
  ∃ H, HnfOf (c + M.length) (wideM M) H ∧ Ext w w' ∧
    ((¬ zeroL ((solL c H M.length b).take c) ∧ e = .returned (.tuple #[.slice none 0 0, .bool false, .int .i64 0]))
      ∨ (zeroL ((solL c H M.length b).take c) ∧ smallB (solX c H M.length b) = true ∧ ∃ v, e = .returned (.tuple #[v, .bool true, .int .i64 0]) ∧ RowV w.heap.size w' v (solX c H M.length b))
      ∨ (zeroL ((solL c H M.length b).take c) ∧ smallB (solX c H M.length b) = false ∧ e = .returned (.tuple #[.slice none 0 0, .bool false, .int .i64 4])))
theorem box_a {X W : World} {T : TypeId} {o : Obj} {v : Value} (h : Ext (((X.alloc (.cells #[v] T)).alloc o).drew) W) : W.cell? ⟨X.heap.size, 0, none⟩ = some v ∧ X.heap.size < W.heap.size :=
  ⟨h.cell (by go_simp), by have := h.size; simp at this; omega⟩
theorem box_b {X W : World} {T : TypeId} {o : Obj} {v : Value} (h : Ext (((X.alloc o).alloc (.cells #[v] T)).drew) W) : W.cell? ⟨X.heap.size + 1, 0, none⟩ = some v ∧ X.heap.size + 1 < W.heap.size :=
  ⟨h.cell (by go_simp), by have := h.size; simp at this; omega⟩
set_option maxRecDepth 100000 in
set_option maxHeartbeats 2000000 in
theorem Solve_any {w : World} {vm vb : Value} {M : Mx} {b : List Int} {c E : Nat} (hM : MatR w vm M) (hb : RowR w vb b) (hs0 : sizeE M b = 0) (h0 : 0 < M.length) (hc : c = ncols M) (hEe : E = bC M.length 30 (c + M.length))
    (hE : 2 * ((E + (E + 1) * M.length) + ((E + (E + 1) * M.length) + 1) * M.length) + 6 < LIM) (hL : Laid w) :
    Calls Tryz.prog 40 #[vm, vb] w (SolPost w M c b) := by
  obtain ⟨hck, hrk, hbl⟩ := sizeE_ok hs0
  obtain ⟨hl12, hn12, hRt, hent⟩ := checkM_ok hck
  obtain ⟨hb64, hbent⟩ := chkRow_ok hrk
  have hbc : b.length = c := by rw [hc]; exact hbl h0
  rw [← hc] at hn12 hRt
  have hsz := Lib.hid (sized_any hM hb)
  rw [hs0] at hsz
  obtain ⟨N, hN⟩ : ∃ N, N = M.length := ⟨_, rfl⟩
  have hwd := Lib.hid (fun W (hW : Ext w W) => wide_any (hM.ext hW) hRt h0 (by omega) (by omega) hent (by rw [← hEe]; have : (E + 1) * M.length ≥ (E + 1) * 1 := Nat.mul_le_mul_left _ h0; omega) (hL.ext hW))
  have hbig := Lib.hid (fun W (bx : Nat) (sb : Option Addr) (bb ob cb : Nat) (hW : Ext w W) (hS : Sl w sb bb ob (is b)) (hcb : b.length ≤ cb) (hbx : W.cell? ⟨bx, 0, none⟩ = some (.slice sb b.length cb)) =>
    sbig_any (w := W) (v := .slice (some ⟨bx, 0, none⟩) 1 1) (M := [b]) ⟨_, bx, 0, 1, [.slice sb b.length cb], rfl, Nat.le_refl _, rfl, ⟨fun _ => rfl, fun i x hx => by
      have : i = 0 := by have := (List.getElem?_eq_some_iff.1 hx).1; simp at this; omega
      subst this
      simp only [List.getElem?_cons_zero, Option.some.injEq] at hx
      rw [← hx]; exact hbx⟩, fun i a bb' => by
      have : i = 0 := by simp at a; omega
      subst this
      exact ⟨sb, bb, ob, cb, rfl, hcb, hS.ext hW⟩⟩ (by simp) (fun r hr => by simp at hr; subst hr; omega) (fun r hr z hz => by simp at hr; subst hr; have := hbent z hz; unfold I64; omega) (hL.ext hW))
  obtain ⟨sb, bb, ob, cb, rfl, hcb, hSb⟩ := hb
  obtain ⟨sa, gb, go, cap, vs, rfl, hcap, hvl, hS, hr⟩ := hM
  obtain rfl := hS.addr (by omega)
  have hrep := Lib.hid (fun W (bx : Nat) (hW : W.cell? ⟨bx, 0, none⟩ = some (I 0)) => repeat_any (m := N) (by omega) (b := bx) (o := 0) (c := 1) (z := 0) (w := W) hW)
  obtain ⟨s0, hs, hy0, hy1, hy2⟩ := info_parts Tryz.infoStr
  have HSb := Lib.hid hSb
  have HRt := Lib.hid hRt
  have Hent := Lib.hid hent
  have Hbent := Lib.hid hbent
  have HE := Lib.hid hE
  have HEe := Lib.hid hEe
  have HL := Lib.hid hL
  have HN := Lib.hid hN
  have Hbc := Lib.hid hbc
  have hN2 : 0 < N := by omega
  have hN12 : N ≤ 12 := by omega
  have hN0 : (N == 0) = false := beq_eq_false_iff_ne.2 (by omega)
  have hN1 : ((N : Int) == 0) = false := beq_eq_false_iff_ne.2 (by omega)
  have hz1 : I 0 = .string ⟨#[48]⟩ := by unfold I S; rw [itoa_zero]
  have Hz1 := Lib.hid hz1
  rw [← hN] at hsz hwd h0 hcap hl12 ⊢
  rw [hbc] at hsz hcb hbig ⊢
  clear hs0 hck hrk hbl hRt hent hbent hSb hE hEe hL hN hbc hS hvl hr hc hz1
  go_enter Tryz.func40, Tryz.ntmps40
  go_wp2_with fail
  refine hsz.out.mono ?_
  rintro e w1 ⟨rfl, hE1⟩
  go_wp2_with fail
  refine (hwd.out _ hE1).mono ?_
  rintro e w2 ⟨g, cp, H, rfl, hH, hHl, hG, hHb, hE2⟩
  rw [← HN.out] at hHl
  have hE12 := hE1.trans hE2
  have HH := Lib.hid hH
  have HG := Lib.hid hG
  have HHb := Lib.hid hHb
  clear hsz hwd hH hG hHb
  go_upto_region 7 with fail
  go_cut [10] from 32 to 42 (fun lv wx => ∃ gl cl, lv = slv gl (c + N) cl ∧ Hid (OwnV 94 w2.heap.size wx gl cl (ss (b ++ List.replicate N 0))) ∧ Ext w2 wx)
  case first =>
    have d7 : Ext w2 w2.drew := (Ext.refl w2).drew
    have hcbI : (c : Int) ≤ (cb : Int) := by omega
    have hNews : ∀ W gr cr, OwnV 94 0 W gr cr (ss (List.replicate N 0)) → ∀ (j : Nat) (u : Value), (ss (List.replicate N 0))[j]? = some u → W.cell? ((⟨gr, 0, none⟩ : Addr).add j) = some u := fun W gr cr hO j u hj => by
      have h2 := hO.sl.cell j u hj
      simpa [Addr.add_lit] using h2
    have HNews := Lib.hid hNews
    have HOne := Lib.hid (show ∀ u ∈ ss (List.replicate N 0), u.oneCell' = true from fun u hu => by
      obtain ⟨y, _, rfl⟩ := List.mem_map.1 hu
      rfl)
    have Hzl := Lib.hid (show (ss (List.replicate N 0)).length = N * 1 by rw [ss_length]; simp)
    clear hNews
    go_region_law (first
      | (go_simp; go_at_call 44; refine (hbig.out _ _ sb bb ob cb (hE12.trans (by first | exact ((Ext.refl w2).alloc _).drew | exact (((Ext.refl w2).alloc _).alloc _).drew)) HSb.out hcb (by go_simp)).mono ?_; rintro e W7 ⟨v1, ad1, rfl, hG7, hE7⟩; obtain ⟨ga1, cap1, rfl, hcap1, hs1⟩ := hG7.shape; obtain ⟨g1, rfl⟩ := hs1 (by simp); have HG7 := Lib.hid hG7; obtain ⟨gx, cx, _, hx1, hx2, _⟩ := hG7.hd (i := 0) (by simp); have HI7 := Lib.hid (show IntsV w2.heap.size W7 (xv b.length gx cx) b from IntsV.mono hx2 (by simp <;> omega)); obtain ⟨xa, xl, xk, hxv⟩ := xv_slice b.length gx cx; have Hxv := Lib.hid hxv; simp only [List.getD_cons_zero] at hx1; rw [hxv] at hx1; have hx1s : g1 < W7.heap.size := World.block_lt_of_cell? _ _ hx1; have h67 := Ext.trans (show Ext w2 _ by first | exact ((Ext.refl w2).alloc _).drew | exact (((Ext.refl w2).alloc _).alloc _).drew) hE7; clear hG7 hx2 hxv; (first | (have zz := box_a (v := .string ⟨#[48]⟩) hE7; obtain ⟨z7, z8⟩ := zz) | (have zz := box_b (v := .string ⟨#[48]⟩) hE7; obtain ⟨z7, z8⟩ := zz) | skip))
      | (go_simp; go_at_call 86; refine (hrep.out _ _ (by rw [Hz1.out]; first | exact z7 | go_simp)).mono ?_; rintro e W8 ⟨gr, cr, rfl, hO8, hE8⟩; have hx8 := hE8.cell (by first | exact hx1 | exact ((Ext.refl W7).alloc _).cell hx1); have h78 := Ext.trans (show Ext W7 _ by first | exact Ext.refl _ | exact (Ext.refl _).alloc _) hE8; have HN8 := Lib.hid (HNews.out _ _ _ (hO8.mono (Nat.zero_le _))); have HI8 := Lib.hid (show IntsV w2.heap.size W8 (xv b.length gx cx) b from HI7.out.ext h78); have h68 := Ext.trans h67 h78; have hs68 := h68.size; clear hO8)
      | (refine step_append_lies _ (by rfl) _ _ _ (by rfl) w2.heap.size 94 s0 _ 1 16 Tryz.underlying99 hs hy0 hy1 hy2 rfl (by omega) (xv b.length gx cx) b.length (ss b) (by rw [Hxv.out]; rfl) HI8.out ⟨gr, 0, none⟩ N cr (ss (List.replicate N 0)) (by rfl) Hzl.out HN8.out HOne.out hN2 (by have := Hbc.out; unfold maxLen; omega) (by have := Hbc.out; omega) hs68 W8.heap.size (by simp) ?_; intro gg cap9 w9 hown9 hgrow9 hat9 hlt9; have h9 : Ext w2 w9 := Ext.mk' (Below.grown h68 hgrow9 hs68 (fun q hq => (World.ownsRow.lt HI8.out q hq).1)); have H9 := Lib.hid (show OwnV 94 w2.heap.size w9 gg cap9 (ss (b ++ List.replicate N 0)) by unfold OwnV; rw [ss_append, List.length_append, Hzl.out, ss_length, Nat.mul_one]; exact hown9); clear hown9 hgrow9 hat9))
    all_goals (try go_wp2_with fail)
    all_goals go_meet
    all_goals exact ⟨gg, cap9, by rw [← Hbc.out], H9, h9⟩
  case rest =>
    obtain ⟨gl, cl, rfl, hO, hE3⟩ := hcut
    generalize wc = X at *
    have hE13 := hE12.trans hE3
    obtain ⟨ps, hI⟩ := HH.out.1
    have hup := upr_rows (c := c) hI
    rw [← HN.out] at hup
    have HRtH := Lib.hid (show Rect (c + N) H by have := hI.rect; rw [← HN.out] at this; exact this)
    have Hup := Lib.hid hup
    have HE0 := Lib.hid (show 30 ≤ E by rw [HEe.out]; have := bC_mono M.length 30 0 (c + M.length); rw [Nat.zero_add] at this; simpa [bC] using this)
    have HHb2 := Lib.hid (show ∀ r ∈ H, ∀ z ∈ r, z.natAbs < 2 ^ E by rw [HEe.out]; exact HHb.out)
    have hEn := HE.out
    rw [← HN.out] at hEn
    have HEN := Lib.hid hEn
    clear hI hup hEn
    obtain ⟨sg, bg, og, cg, vg, hgv, hgc, hgl, hgS, hgr⟩ := HG.out
    injection hgv with q1 _ q3
    subst q3
    have HgS := Lib.hid hgS
    have Hgl := Lib.hid hgl
    have Hgr := Lib.hid hgr
    have Hq1 := Lib.hid q1
    have hHc : (H.length : Int) ≤ (cp : Int) := by omega
    clear hgS hgl hgr q1
    go_wp2_with fail
    go_loopw [11, 44] (fun out idx wr => ∃ i : Nat, i ≤ H.length ∧ idx = .int .i64 i ∧ Hid (RdO X.heap.size X wr out (upr c (H.take i))) ∧ Ext X wr) (fun _ idx _ => H.length - (intOf idx).toNat)
    case atStart => exact ⟨0, by omega, by go_num, Lib.hid (RdO.nil _ _ _), Ext.refl _⟩
    case round =>
      obtain ⟨i, hi', rfl, hV, hE4⟩ := hrel
      generalize wr = Y at *
      by_cases hlt : i < H.length
      · have hii : (i : Int) < (H.length : Int) := by omega
        have hq := HgS.out.addr (by rw [Hgl.out]; omega)
        rw [← Hq1.out] at hq
        injection hq with hq
        injection hq with hq1 hq2
        obtain ⟨sr, br, or, cr, hrow, hrc, hSr⟩ := GridR.row HgS.out Hgl.out Hgr.out hlt
        rw [← hq1, ← hq2, Nat.zero_add] at hrow
        have hrl : H[i].length = c + N := HRtH.out _ (List.getElem_mem hlt)
        have hstep := upr_step (c := c) hlt
        obtain ⟨r, hr⟩ : ∃ r, r = H[i] := ⟨_, rfl⟩
        rw [← hr] at hrow hrc hSr hrl hstep
        rw [hrl] at hrow hrc
        have hrow' := (hE3.trans hE4).cell hrow
        obtain rfl := hSr.addr (by rw [ss_length]; omega)
        have Hrd := Lib.hid (show IntsR X (.slice (some ⟨br, or, none⟩) (c + N) cr) r from ⟨_, br, or, cr, by rw [hrl], by rw [hrl]; exact hrc, hSr.ext hE3⟩)
        have hld := Lib.hid (slead_any (w := Y) (cap := cr) (hSr.ext (hE3.trans hE4)) (by omega))
        rw [hrl] at hld
        have Hul := Lib.hid (show (upr c (H.take i)).length ≤ 1000000000 by have := upr_len c (H.take i); rw [List.length_take] at this; omega)
        clear hq1 hq2 hr hrow hrc hSr hrl
        obtain ⟨p, hp⟩ : ∃ p, p = pv r := ⟨_, rfl⟩
        rw [← hp] at hstep hld
        by_cases hpc : p < c
        · have hpi : (p : Int) < (c : Int) := by omega
          rw [if_pos hpc] at hstep
          have Hstep := Lib.hid hstep
          have hXY := hE4.size
          clear hstep hp hpc
          go_wp2_with fail
          refine hld.out.mono ?_
          rintro e W ⟨rfl, hW⟩
          have hWX := hW.size
          go_wp2_with (at_builtin; refine app_rd rfl _ _ rfl (B := X.heap.size) (w0 := X) rfl ((hV.out.ext hW).ext ((Ext.refl _).alloc _)) rfl (b := W.heap.size) (rv := .slice (some ⟨br, or, none⟩) (c + N) cr) (r := r) (by go_simp) Hrd.out Hul.out (by simp; omega) ?_; intro gg cap2 w8 hO8 hB8 hG8; rw [← Hstep.out] at hO8)
          have hE8 : Ext X w8 := Below.trans ((hE4.trans hW).alloc _) hB8
          have HO8 := Lib.hid hO8
          clear hG8 hB8 hO8
          go_wp2_with fail
          go_roundw
          case rel => exact ⟨i + 1, by omega, by go_num, Lib.hid (by
            have h1 := HO8.out
            rw [Hstep.out] at h1 ⊢
            simpa using h1), hE8⟩
          case measure => simp [intOf] <;> omega
        · have hpi : ¬ (p : Int) < (c : Int) := by omega
          rw [if_neg hpc] at hstep
          have Hstep := Lib.hid hstep
          clear hstep hp hpc
          go_wp2_with fail
          refine hld.out.mono ?_
          rintro e W ⟨rfl, hW⟩
          go_wp2_with fail
          go_roundw
          case rel => exact ⟨i + 1, by omega, by go_num, Lib.hid (by rw [Hstep.out]; exact hV.out.ext hW), hE4.trans hW⟩
          case measure => simp [intOf] <;> omega
      · have hie : i = H.length := by omega
        have hV2 := hV.out
        rw [hie, List.take_length] at hV2
        have hgrd := hV2.grid hE4
        have hii : ¬ (i : Int) < (H.length : Int) := by omega
        have hxl : (b ++ List.replicate N 0).length = c + N := by rw [List.length_append, Hbc.out, List.length_replicate]
        have hbx : ∀ z ∈ b ++ List.replicate N 0, z.natAbs < 2 ^ E := fun z hz => by
          have e : (2 : Nat) ^ 30 = 1073741824 := by decide
          have h3 : 2 ^ 30 ≤ 2 ^ E := Nat.pow_le_pow_right (by omega) HE0.out
          rcases List.mem_append.1 hz with hz | hz
          · have := Hbent.out z hz; omega
          · have := (List.mem_replicate.1 hz).2; omega
        have hul := upr_len c H
        have hmul : (E + 1) * (upr c H).length ≤ (E + 1) * N := Nat.mul_le_mul_left _ (by omega)
        have hred := Lib.hid (reduced_any (w := Y) hgrd Hup.out.1 ((hO.out.ext hE4).intsR hxl) hxl (by omega) (by omega) (by omega) (fun r hr => (Hup.out.2 r hr).2) (fun r hr => HHb2.out r (List.mem_filter.1 hr).1) hbx (by have := HEN.out; omega) (HL.out.ext (hE13.trans hE4)))
        have hl1b := Lib.hid (show ∀ z ∈ solL c H N b, z.natAbs < 2 ^ (E + (E + 1) * N) from fun z hz => by
          have h3 := redX_bits (F := upr c H) (x := b ++ List.replicate N 0) (E := E) (fun r hr => by rw [Hup.out.1 r hr]; exact (Hup.out.2 r hr).2) (fun r hr => HHb2.out r (List.mem_filter.1 hr).1) hbx (upr c H).length (Nat.le_refl _) z (by rw [List.take_length]; exact hz)
          exact Nat.lt_of_lt_of_le h3 (Nat.pow_le_pow_right (by omega) (by omega)))
        have hEY := hE13.trans hE4
        rw [show redX (upr c H) (b ++ List.replicate N 0) = solL c H N b from rfl] at hred
        clear hie hV hV2 hgrd hxl hbx hul hmul hlt hO
        go_wp2_with fail
        refine hred.out.mono ?_
        rintro e w4 ⟨gx, cx, rfl, hX4, hE5⟩
        obtain ⟨l1, hl1⟩ : ∃ l1, l1 = solL c H N b := ⟨_, rfl⟩
        rw [← hl1] at hX4 hl1b
        have hl1l : l1.length = c + N := by rw [hl1, solL_length, Hbc.out]
        have hgl := hX4.lt
        have hcx := hX4.cap
        rw [ss_length, hl1l] at hcx
        have HX4 := Lib.hid hX4
        have Hl1 := Lib.hid hl1
        have Hl1l := Lib.hid hl1l
        have hld := Lib.hid (slead_any (w := w4) (cap := cx) hX4.sl (by omega : l1.length ≤ 1000000))
        rw [hl1l] at hld
        have hdec := pv_lt_take (l := l1) (c := c) (by omega)
        have Hdec := Lib.hid hdec
        obtain ⟨p, hp⟩ : ∃ p, p = pv l1 := ⟨_, rfl⟩
        rw [← hp] at hld Hdec
        have hE6 := hEY.trans hE5
        clear hX4 hl1 hl1l hdec hp hred
        by_cases hpc : p < c
        · have hpi : (p : Int) < (c : Int) := by omega
          have hnz := Hdec.out.1 hpc
          have Hres := Lib.hid (fun W (hW : Ext w4 W) => show SolPost w M c b (.returned (.tuple #[.slice none 0 0, .bool false, .int .i64 0])) W from ⟨H, HH.out, hE6.trans hW, .inl ⟨by rw [← HN.out, ← Hl1.out]; exact hnz, rfl⟩⟩)
          clear hpc hnz
          go_wp2_with fail
          refine hld.out.mono ?_
          rintro e w5 ⟨rfl, hE7⟩
          go_wp2_with fail
          go_ret3
          exact Hres.out _ hE7
        · have hpi : ¬ (p : Int) < (c : Int) := by omega
          have HZ := Lib.hid (show zeroL (l1.take c) from Classical.byContradiction fun h => hpc (Hdec.out.2 h))
          have hE1' : 2 * (E + (E + 1) * N) + 2 < LIM := by have := HEN.out; omega
          have htn := Lib.hid (fun W (hW : Ext w4 W) => sturn_part (B := Y.heap.size) (w := W) (o := c) (n := N) (cp := cx - c) (HX4.out.ext hW) (by rw [Hl1l.out]) (by omega) (fun z hz => by have := nd_lt2 (hl1b.out z hz); omega))
          have hcI : (c : Int) ≤ ((c + N : Nat) : Int) := by omega
          have hcI2 : (c : Int) ≤ (cx : Int) := by omega
          have hcast : ((c + N : Nat) : Int) = (c : Int) + (N : Int) := by omega
          have hcne : ¬ cx = c := by omega
          have hcne2 : ¬ cx - c = 0 := by omega
          clear hpc
          go_wp2_with fail
          refine hld.out.mono ?_
          rintro e w5 ⟨rfl, hE7⟩
          have hE57 := hE6.trans hE7
          go_wp2_with fail
          refine (htn.out _ hE7).mono ?_
          rintro e w6 ⟨rfl, hX6, hG6⟩
          have hE8 : Ext X w6 := ext_trans_grown (((hE4.trans hE5).trans hE7)) hG6 (by have := hE4.size; omega)
          have hE38 := hE3.trans hE8
          have hE18 := hE13.trans hE8
          have hx0l : (negM (l1.drop c)).length = N := by rw [negM_length, List.length_drop, Hl1l.out]; omega
          have hxx : l1.take c ++ (l1.drop c).map (fun z => -z) = l1.take c ++ negM (l1.drop c) := rfl
          have htl : (l1.take c).length = c := by rw [List.length_take, Hl1l.out]; omega
          rw [hxx] at hX6
          have hxr : IntsR w6 (.slice (some ⟨gx, c, none⟩) N (cx - c)) (negM (l1.drop c)) := by
            refine ⟨_, gx, c, cx - c, by rw [hx0l], by rw [hx0l]; omega, ?_⟩
            have := hX6.sl.drop (c := c) (ga' := some ⟨gx, 0 + c, none⟩) rfl
            rw [ss_drop, List.drop_left' htl, Nat.zero_add] at this
            exact this
          have Hxr := Lib.hid hxr
          have Hx0l := Lib.hid hx0l
          have hx0b : ∀ z ∈ negM (l1.drop c), z.natAbs < 2 ^ (E + (E + 1) * N) := fun z hz => by
            obtain ⟨y, hy, rfl⟩ := List.mem_map.1 hz
            rw [Int.natAbs_neg]; exact hl1b.out y (List.mem_of_mem_drop hy)
          have Hx0b := Lib.hid hx0b
          obtain ⟨qs, hK, _⟩ := krn_form HRt.out HH.out
          have HK := Lib.hid hK
          have hkl := krn_len2 c H
          have Hkb := Lib.hid (show ∀ r ∈ krn c H, ∀ z ∈ r, z.natAbs < 2 ^ (E + (E + 1) * N) from fun r hr z hz => by
            obtain ⟨s, hs, rfl⟩ := List.mem_map.1 hr
            have := HHb2.out s (List.mem_filter.1 hs).1 z (List.mem_of_mem_drop hz)
            exact Nat.lt_of_lt_of_le this (Nat.pow_le_pow_right (by omega) (by omega)))
          have hkr := Lib.hid (kernel_any (w := w6) (c := c) (m := N) (HG.out.ext hE38) HRtH.out hN2 (by omega) (by omega))
          have hmul : (E + (E + 1) * N + 1) * (krn c H).length ≤ (E + (E + 1) * N + 1) * N := Nat.mul_le_mul_left _ (by omega)
          have hrd2 := Lib.hid (fun W vF (hW : Ext w6 W) (hF : GridR W vF (krn c H)) => reduced_any (w := W) (m := N) hF (by have := HK.out.rect; rw [← HN.out] at this; exact this) (Hxr.out.ext hW) Hx0l.out hN2 (by omega) (by omega) (fun r hr => by
            obtain ⟨i, hi, rfl⟩ := List.getElem_of_mem hr
            have := HK.out.lt i hi
            rw [HK.out.pvs hi, getD_get hi, ← HN.out] at this
            exact this) Hkb.out Hx0b.out (by have := HEN.out; omega) (HL.out.ext (hE18.trans hW)))
          have hsolx : redX (krn c H) (negM (l1.drop c)) = solX c H N b := by rw [Hl1.out]; rfl
          rw [hsolx] at hrd2
          have Hsb := Lib.hid (show ∀ z ∈ solX c H N b, nd z ≤ LIM from fun z hz => by
            have h3 := redX_bits (F := krn c H) (x := negM (l1.drop c)) (E := E + (E + 1) * N) (fun r hr => by
              obtain ⟨i, hi, rfl⟩ := List.getElem_of_mem hr
              have h4 := HK.out.lt i hi
              rw [HK.out.pvs hi, getD_get hi, ← HN.out] at h4
              have h5 : (krn c H)[i].length = N := by have := HK.out.rect _ (List.getElem_mem hi); rw [← HN.out] at this; exact this
              omega) Hkb.out Hx0b.out (krn c H).length (Nat.le_refl _) z (by rw [List.take_length, hsolx]; exact hz)
            have := nd_lt2 h3
            have := HEN.out
            omega)
          have hsxl : (solX c H N b).length = N := solX_length Hbc.out
          have Hsxl := Lib.hid hsxl
          have hsml := Lib.hid (fun W bx gz cz (hW : Ext w6 W) (hZ : OwnV 94 0 W gz cz (ss (solX c H N b))) (hbx : W.cell? ⟨bx, 0, none⟩ = some (slv gz N cz)) =>
            ssmall_any (w := W) (v := .slice (some ⟨bx, 0, none⟩) 1 1) (M := [solX c H N b]) ⟨_, bx, 0, 1, [slv gz N cz], rfl, Nat.le_refl _, rfl, ⟨fun _ => rfl, fun i x hx => by
              have : i = 0 := by have := (List.getElem?_eq_some_iff.1 hx).1; simp at this; omega
              subst this
              simp only [List.getElem?_cons_zero, Option.some.injEq] at hx
              rw [← hx]; exact hbx⟩, fun i a bb' => by
              have : i = 0 := by simp at a; omega
              subst this
              exact hZ.intsR Hsxl.out⟩ (by simp) (fun r hr => by simp at hr; subst hr; rw [Hsxl.out]; omega) (fun r hr z hz => by simp at hr; subst hr; exact Hsb.out z hz) (HL.out.ext (hE18.trans hW)))
          have HZ2 := Lib.hid (show zeroL ((solL c H M.length b).take c) by rw [← HN.out, ← Hl1.out]; exact HZ.out)
          clear hX6 hxr hx0l hx0b hK hkl hmul hsolx hsxl hxx htl htn hld
          go_wp2_with fail
          refine hkr.out.mono ?_
          rintro e w7 ⟨vK, rfl, hgK, hE9⟩
          obtain ⟨ka, kb, ko, kc, kv, hkv, hk2⟩ := id hgK
          have HgK := Lib.hid hgK
          clear hgK hk2
          subst hkv
          go_wp2_with fail
          refine (hrd2.out _ _ hE9 HgK.out).mono ?_
          rintro e w8 ⟨gz, cz, rfl, hZ8, hE10⟩
          have HZ8 := Lib.hid (hZ8.mono (Nat.zero_le _))
          clear hZ8
          have hE610 := hE9.trans hE10
          go_wp2_with fail
          refine (hsml.out _ w8.heap.size gz cz (hE610.alloc _) (HZ8.out.ext ((Ext.refl _).alloc _)) (by go_simp)).mono ?_
          rintro e w9 ⟨hp9, hE11⟩
          have hfin := hE18.trans ((hE610.alloc _).trans hE11)
          cases hs : smallB (solX c H N b)
          · have hsm : smallM [solX c H N b] = false := by simp [smallM, hs]
            rw [if_neg (by rw [hsm]; decide)] at hp9
            subst hp9
            have Hres := Lib.hid (show SolPost w M c b (.returned (.tuple #[.slice none 0 0, .bool false, .int .i64 4])) w9 from ⟨H, HH.out, hfin, .inr (.inr ⟨HZ2.out, by rw [← HN.out]; exact hs, rfl⟩)⟩)
            clear hs hsm
            go_wp2_with fail
            go_ret3
            exact Hres.out
          · have hsm : smallM [solX c H N b] = true := by simp [smallM, hs]
            rw [if_pos hsm] at hp9
            obtain ⟨vr, rfl, hvr⟩ := hp9
            obtain ⟨vs9, hv1, hv2, hv3⟩ := hvr
            have h90 := hv3 0 (by simp) (by rw [hv1]; simp)
            rcases hv2.2 with ⟨_, h0'⟩ | ⟨g9, c9, cur9, rfl, _, _, hc9, _⟩
            · simp at h0'
            · have hc9' := World.ownsRow.cellAt hv2 0 (by simp)
              rw [List.getElem?_eq_getElem (by rw [hv1]; simp)] at hc9'
              simp only [List.length_singleton] at hc9 hc9'
              obtain ⟨rv, hrv⟩ : ∃ rv, rv = vs9[0]'(by rw [hv1]; simp) := ⟨_, rfl⟩
              rw [← hrv] at hc9' h90
              have hc10 : w9.cell? ⟨g9, 0, none⟩ = some rv := by simpa using hc9'
              have hsz8 := (hE18.trans (hE610.alloc (.cells #[slv gz N cz] 99))).size
              have Hres := Lib.hid (show SolPost w M c b (.returned (.tuple #[rv, .bool true, .int .i64 0])) w9 from ⟨H, HH.out, hfin, .inr (.inl ⟨HZ2.out, by rw [← HN.out]; exact hs, rv, rfl, by rw [← HN.out]; exact RowV.mono h90 hsz8⟩)⟩)
              clear hs hsm h90 hv1 hv2 hv3 hrv hc9'
              go_wp2_with fail
              go_ret3
              exact Hres.out
end Go.Proofs.YtokjolmpdfmnbaaGreatDoor
namespace Go.Proofs.YtokjolmpdfmnbaaGreatDoor
open Go.RowKit Go.Sort
set_option maxRecDepth 100000 in
theorem CheckAll_ok {w : World} {v : Value} {F : Mx} {n : Nat} (hM : MatR w v F) (hF : ∀ r ∈ F, chkRow r = 0 ∧ r.length = n) (hl : F.length ≤ 1000) :
    Calls Tryz.prog 69 #[v, .int .i64 n] w fun e w' => e = .returned (.int .i64 0) ∧ Ext w w' := by
  obtain ⟨sa, gb, go, cap, vs, rfl, hcap, hvl, hS, hr⟩ := hM
  have HS := Lib.hid hS
  have HV := Lib.hid hvl
  have HR := Lib.hid hr
  have HF := Lib.hid hF
  clear hS hvl hr hF
  go_enter Tryz.func69, Tryz.ntmps69
  go_wp2_with fail
  go_loopw [10] (fun idx wr => ∃ i : Nat, i ≤ F.length ∧ idx = .int .i64 i ∧ Ext w wr) (fun idx _ => F.length - (intOf idx).toNat)
  case atStart => exact ⟨0, by omega, by go_num, Ext.refl _⟩
  case round =>
    obtain ⟨i, hi, rfl, hE⟩ := hrel
    generalize wr = X at *
    by_cases hlt : i < F.length
    · have hii : (i : Int) < (F.length : Int) := by omega
      obtain rfl := HS.out.addr (by rw [HV.out]; omega)
      obtain ⟨sr, br, or, cr, hrow, hrc, hSr⟩ := MatR.row HS.out HV.out HR.out hlt
      obtain ⟨h1, h2⟩ := HF.out _ (List.getElem_mem hlt)
      have hch := Lib.hid (rowCheck_any (w := X) (v := .slice sr F[i].length cr) (x := F[i]) ⟨sr, br, or, cr, rfl, hrc, hSr.ext hE⟩)
      rw [h1] at hch
      rw [h2] at hch hrow
      have hrow' := hE.cell hrow
      clear hrow hrc hSr h1 h2
      go_wp2_with fail
      refine hch.out.mono ?_
      rintro e W ⟨rfl, hW⟩
      go_wp2_with fail
      go_roundw
      case rel => exact ⟨i + 1, by omega, by go_num, hE.trans hW⟩
      case measure => simp [intOf] <;> omega
    · have hii : ¬ (i : Int) < (F.length : Int) := by omega
      go_wp2_with fail
      go_ret
      exact ⟨rfl, hE⟩
def RowP (w : World) (g cap : Nat) (r : List Int) : Prop := r.length ≤ cap ∧ Sl w (some ⟨g, 0, none⟩) g 0 (is r)
theorem RowP.row {w : World} {g cap : Nat} {r : List Int} (h : RowP w g cap r) : RowR w (slv g r.length cap) r := ⟨_, g, 0, cap, rfl, h.1, h.2⟩
theorem RowP.ext {w w' : World} {g cap : Nat} {r : List Int} (h : RowP w g cap r) (he : Ext w w') : RowP w' g cap r := ⟨h.1, h.2.ext he⟩
structure LayP (w : World) (k : Int) (n go co gr cr gu cu : Nat) (o r u : List Int) : Prop where
  kind : k = 1 ∨ k = 2
  n12 : n ≤ 12
  lo : o.length = n
  lr : r.length = n
  lu : u.length = n
  eo : chkRow o = 0
  er : chkRow r = 0
  eu : chkRow u = 0
  po : RowP w go co o
  pr : RowP w gr cr r
  pu : RowP w gu cu u
theorem LayP.ext {w w' : World} {k : Int} {n go co gr cr gu cu : Nat} {o r u : List Int} (h : LayP w k n go co gr cr gu cu o r u) (he : Ext w w') : LayP w' k n go co gr cr gu cu o r u :=
  ⟨h.kind, h.n12, h.lo, h.lr, h.lu, h.eo, h.er, h.eu, h.po.ext he, h.pr.ext he, h.pu.ext he⟩
abbrev layv (k : Int) (n go co gr cr gu cu : Nat) : Value := .agg #[.int .i64 k, slv go n co, slv gr n cr, slv gu n cu]
theorem two_rows {W : World} {b g1 c1 g2 c2 n : Nat} {x y : List Int} (hx : RowP W g1 c1 x) (hy : RowP W g2 c2 y) (lx : x.length = n) (ly : y.length = n) (h0 : W.cell? ⟨b, 0, none⟩ = some (slv g1 n c1)) (h1 : W.cell? ⟨b, 1, none⟩ = some (slv g2 n c2)) : MatR W (.slice (some ⟨b, 0, none⟩) 2 2) [x, y] := by
  refine ⟨_, b, 0, 2, [slv g1 n c1, slv g2 n c2], rfl, Nat.le_refl _, rfl, ⟨fun _ => rfl, fun i v hv => ?_⟩, fun i a a' => ?_⟩
  · have hi : i < 2 := by have := (List.getElem?_eq_some_iff.1 hv).1; simpa using this
    rcases (show i = 0 ∨ i = 1 by omega) with rfl | rfl
    · simp at hv; rw [← hv]; exact h0
    · simp at hv; rw [← hv]; exact h1
  · have hi : i < 2 := by simpa using a
    rcases (show i = 0 ∨ i = 1 by omega) with rfl | rfl
    · have := hx.row; rw [lx] at this; exact this
    · have := hy.row; rw [ly] at this; exact this
set_option maxRecDepth 100000 in
set_option maxHeartbeats 1000000 in
theorem lcheck_ok {w : World} {k : Int} {n go co gr cr gu cu : Nat} {o r u : List Int} (h : LayP w k n go co gr cr gu cu o r u) :
    Calls Tryz.prog 25 #[layv k n go co gr cr gu cu] w fun e w' => e = .returned (.int .i64 0) ∧ Ext w w' := by
  have H := Lib.hid h
  have hck := Lib.hid (fun W (hW : Ext w W) => by
    have h1 := rowCheck_any ((h.po.ext hW).row)
    rw [h.lo, h.eo] at h1
    exact h1)
  have hall := Lib.hid (fun W b (hW : Ext w W) (h0 : W.cell? ⟨b, 0, none⟩ = some (slv gr n cr)) (h1 : W.cell? ⟨b, 1, none⟩ = some (slv gu n cu)) => CheckAll_ok (n := n) (two_rows (h.pr.ext hW) (h.pu.ext hW) h.lr h.lu h0 h1) (fun s hs => by
    simp only [List.mem_cons, List.not_mem_nil, or_false] at hs
    rcases hs with rfl | rfl
    · exact ⟨h.er, h.lr⟩
    · exact ⟨h.eu, h.lu⟩) (by simp))
  have hn : (n : Int) ≤ 12 := by have := h.n12; omega
  have hn2 : ¬ (12 : Int) < (n : Int) := by omega
  rcases h.kind with rfl | rfl
  all_goals
    clear h
    go_enter Tryz.func25, Tryz.ntmps25
    go_wp2_with fail
    generalize hW1 : World.alloc w _ = W1
    have hE1 : Ext w W1 := by rw [← hW1]; exact (Ext.refl w).alloc _
    have c0 : W1.cell? ⟨w.heap.size, 1, none⟩ = some (slv go n co) := by rw [← hW1]; clear hW1; go_simp
    have c1 : W1.cell? ⟨w.heap.size, 2, none⟩ = some (slv gr n cr) := by rw [← hW1]; clear hW1; go_simp
    have c2 : W1.cell? ⟨w.heap.size, 3, none⟩ = some (slv gu n cu) := by rw [← hW1]; clear hW1; go_simp
    clear hW1
    refine (hck.out _ hE1).mono ?_
    rintro e W2 ⟨rfl, hE2⟩
    have d0 := hE2.cell c0
    have d1 := hE2.cell c1
    have d2 := hE2.cell c2
    have dl := World.block_lt_of_cell? _ _ d0
    clear c0 c1 c2 hck
    go_wp2_with fail
    refine (hall.out _ W2.heap.size ((hE1.trans hE2).alloc _) (by go_simp) (by go_simp)).mono ?_
    rintro e W3 ⟨rfl, hE3⟩
    have hE4 := ((hE1.trans hE2).alloc (.cells #[slv gr n cr, slv gu n cu] 32)).trans hE3
    go_wp2_with fail
    go_ret
    exact ⟨rfl, hE4⟩
theorem far_any {w : World} {x y : Int} (hx : I64 x) (hy : I64 y) :
    Calls Tryz.prog 76 #[.agg #[.int .i64 x, .int .i64 y]] w fun e w' => e = .returned (.bool (decide (1000000 < max x y) || decide (min x y < -1000000))) ∧ Ext w w' := by
  unfold I64 at hx hy
  obtain ⟨hx1, hx2⟩ := hx
  obtain ⟨hy1, hy2⟩ := hy
  have hE := (Ext.refl w).alloc (.cells #[.int .i64 x, .int .i64 y] 68)
  obtain ⟨m, hm⟩ : ∃ m, m = max x y := ⟨_, rfl⟩
  obtain ⟨q, hq⟩ : ∃ q, q = min x y := ⟨_, rfl⟩
  have hm' := hm.symm
  have hq' := hq.symm
  rw [← hm, ← hq]
  by_cases h1 : 1000000 < m
  · have hd : decide (1000000 < m) = true := decide_eq_true h1
    rw [hd]
    clear hd hm hq
    go_enter Tryz.func76, Tryz.ntmps76
    go_wp2_with fail
    go_ret
    exact ⟨rfl, hE⟩
  · have hd : decide (1000000 < m) = false := decide_eq_false h1
    rw [hd]
    clear hd hm hq
    go_enter Tryz.func76, Tryz.ntmps76
    go_wp2_with fail
    go_ret
    exact ⟨by simp, hE⟩
def atL (x y : Int) : List Int → List Int → List Int → List Int
  | o :: os, r :: rs, u :: us => (o + (x * r + y * u)) :: atL x y os rs us
  | _, _, _ => []
theorem atL_length (x y : Int) : ∀ (o r u : List Int), r.length = o.length → u.length = o.length → (atL x y o r u).length = o.length
  | [], _, _, _, _ => by simp [atL]
  | o :: os, [], _, h, _ => by simp at h
  | o :: os, _ :: _, [], _, h => by simp at h
  | o :: os, r :: rs, u :: us, h, h2 => by simp [atL, atL_length x y os rs us (by simpa using h) (by simpa using h2)]
theorem atL_get (x y : Int) : ∀ (o r u : List Int) (i : Nat), i < o.length → r.length = o.length → u.length = o.length → (atL x y o r u).getD i 0 = o.getD i 0 + (x * r.getD i 0 + y * u.getD i 0)
  | [], _, _, _, h, _, _ => by simp at h
  | o :: os, [], _, _, _, h, _ => by simp at h
  | o :: os, _ :: _, [], _, _, _, h => by simp at h
  | o :: os, r :: rs, u :: us, 0, _, _, _ => by simp [atL]
  | o :: os, r :: rs, u :: us, i + 1, hi, h, h2 => by
    have := atL_get x y os rs us i (by simpa using hi) (by simpa using h) (by simpa using h2)
    simpa [atL] using this
end Go.Proofs.YtokjolmpdfmnbaaGreatDoor
namespace Go.Proofs.YtokjolmpdfmnbaaGreatDoor
open Go.RowKit Go.Sort
def atTo (x y : Int) (i : Nat) (o r u : List Int) : List Int := (atL x y o r u).take i ++ o.drop i
theorem atTo_length {x y : Int} {i n : Nat} {o r u : List Int} (ho : o.length = n) (hr : r.length = n) (hu : u.length = n) (hi : i ≤ n) : (atTo x y i o r u).length = n := by
  unfold atTo
  rw [List.length_append, List.length_take, List.length_drop, atL_length _ _ _ _ _ (by omega) (by omega)]; omega
theorem atTo_getD {x y : Int} {i n : Nat} {o r u : List Int} (ho : o.length = n) (hr : r.length = n) (hu : u.length = n) (hi : i ≤ n) (t : Nat) : (atTo x y i o r u).getD t 0 = if t < i then (atL x y o r u).getD t 0 else o.getD t 0 := by
  have hl := atL_length x y o r u (by omega) (by omega)
  have htl : ((atL x y o r u).take i).length = i := by rw [List.length_take]; omega
  unfold atTo
  simp only [List.getD_eq_getElem?_getD]
  by_cases h : t < i
  · rw [if_pos h, List.getElem?_append_left (by omega), List.getElem?_take, if_pos h]
  · rw [if_neg h, List.getElem?_append_right (by omega), htl, List.getElem?_drop, show i + (t - i) = t by omega]
theorem atTo_step {x y : Int} {i n : Nat} {o r u : List Int} (ho : o.length = n) (hr : r.length = n) (hu : u.length = n) (hi : i < n) : atTo x y (i + 1) o r u = (atTo x y i o r u).set i (o.getD i 0 + (x * r.getD i 0 + y * u.getD i 0)) := by
  have e1 := atTo_length (x := x) (y := y) (i := i) ho hr hu (by omega)
  refine List.ext_getElem (by rw [List.length_set, e1, atTo_length ho hr hu (by omega)]) fun t h1 h2 => ?_
  rw [← getD_get h1 0, ← getD_get h2 0, getD_set _ _ _ _ _ (by omega), atTo_getD ho hr hu (by omega), atTo_getD ho hr hu (by omega)]
  by_cases e : t = i
  · subst e
    rw [if_pos rfl, if_pos (by omega), atL_get _ _ _ _ _ _ (by omega) (by omega) (by omega)]
  · rw [if_neg e]
    by_cases h3 : t < i
    · rw [if_pos (by omega), if_pos h3]
    · rw [if_neg (by omega), if_neg h3]
theorem atTo_at {x y : Int} {i n : Nat} {o r u : List Int} (ho : o.length = n) (hr : r.length = n) (hu : u.length = n) (hi : i < n) : (atTo x y i o r u).getD i 0 = o.getD i 0 := by
  rw [atTo_getD ho hr hu (by omega), if_neg (by omega)]
theorem mul_i64 {x z : Int} (hx : -1000000 ≤ x ∧ x ≤ 1000000) (hz : -1000000000 ≤ z ∧ z ≤ 1000000000) : -1000000000000000 ≤ x * z ∧ x * z ≤ 1000000000000000 := by
  have h : (x * z).natAbs ≤ 1000000 * 1000000000 := by rw [Int.natAbs_mul]; exact Nat.mul_le_mul (by omega) (by omega)
  omega
set_option maxRecDepth 100000 in
set_option maxHeartbeats 1000000 in
theorem at_any {w : World} {k x y : Int} {n go co gr cr gu cu : Nat} {o r u : List Int} (h : LayP w k n go co gr cr gu cu o r u) (hx : -1000000 ≤ x ∧ x ≤ 1000000) (hy : -1000000 ≤ y ∧ y ≤ 1000000) :
    Calls Tryz.prog 73 #[layv k n go co gr cr gu cu, .agg #[.int .i64 x, .int .i64 y]] w fun e w' => ∃ g, e = .returned (slv g n n) ∧ OwnV 3 w.heap.size w' g n (is (atL x y o r u)) ∧ Ext w w' := by
  have H := Lib.hid h
  obtain ⟨i0, hi, hz0, hz1, hz2⟩ := info_parts Tryz.infoInt
  have hinfo : (Tryz.prog.info? 3).map (·.size) = some 1 := by rw [hi]; simp [hz1]
  have Hinfo := Lib.hid hinfo
  have Hlo := Lib.hid h.lo
  have Hlr := Lib.hid h.lr
  have Hlu := Lib.hid h.lu
  have Hbo := Lib.hid (chkRow_ok h.eo).2
  have Hbr := Lib.hid (chkRow_ok h.er).2
  have Hbu := Lib.hid (chkRow_ok h.eu).2
  have hn := h.n12
  obtain ⟨hx1, hx2⟩ := hx
  obtain ⟨hy1, hy2⟩ := hy
  clear h hinfo
  go_enter Tryz.func73, Tryz.ntmps73
  go_wp2_with (at_make; refine wpList_make_full _ rfl _ _ 32 rfl w.heap.size 3 i0 (.int .i64 0) 1 Tryz.underlying32 hi hz0 hz1 .i64 .i64 _ _ n rfl rfl (by omega) (by omega) (by rw [hz2]; omega) (by unfold maxLen; omega) (by simp <;> omega) ?_; intro w1 hown1 hgrow1; have hE1 := ext_grown hgrow1; have c0 : w1.cell? ⟨w.heap.size, 1, none⟩ = some (slv go n co) := hE1.cell (by go_simp); have c1 : w1.cell? ⟨w.heap.size, 2, none⟩ = some (slv gr n cr) := hE1.cell (by go_simp); have c2 : w1.cell? ⟨w.heap.size, 3, none⟩ = some (slv gu n cu) := hE1.cell (by go_simp); have c3 : w1.cell? ⟨w.heap.size + 1, 0, none⟩ = some (.int .i64 x) := hE1.cell (by go_simp); have c4 : w1.cell? ⟨w.heap.size + 1, 1, none⟩ = some (.int .i64 y) := hE1.cell (by go_simp))
  have hX1 : Ext w w1 := (((Ext.refl w).alloc _).alloc _).trans hE1
  rw [show ((w.alloc (.cells #[.int .i64 k, slv go n co, slv gr n cr, slv gu n cu] 54)).alloc (.cells #[.int .i64 x, .int .i64 y] 68)).heap.size = w.heap.size + 1 + 1 by simp] at hown1
  obtain ⟨g, hg⟩ : ∃ g, g = w.heap.size + 1 + 1 := ⟨_, rfl⟩
  rw [← hg] at hown1 ⊢
  have hb0 : OwnV 3 w.heap.size w1 g n (is (List.replicate n 0)) := row_ownV (zero_row hown1) (by simp)
  obtain ⟨cur, k1, k2, k3, k4, k5, k6⟩ := hb0.parts
  have hsrc := ((H.out.po.ext hX1).2)
  have hrun := run_copy_row (P := Tryz.prog) w1 32 32 3 3 g 0 n n ⟨go, 0, none⟩ n co cur 3 (is o) Tryz.underlying32 Hinfo.out k2 (by rw [is_length, Hlo.out]; simp)
    (fun j v hj => by
      have := hsrc.cell j v hj
      simpa [Addr.add_lit] using this) (by rw [is_length, Hlo.out, k5]; omega) (fun v hv => by
      obtain ⟨y, _, rfl⟩ := List.mem_map.1 hv
      rfl)
  rw [is_length, Hlo.out] at hrun
  obtain ⟨w2, hw2⟩ : ∃ w2, w2 = w1.setRow g (cur.toList.take 0 ++ is o ++ cur.toList.drop (0 + n)).toArray := ⟨_, rfl⟩
  rw [← hw2] at hrun
  have hdrop : cur.toList.drop (0 + n) = [] := List.drop_of_length_le (by rw [Array.length_toList, k5]; omega)
  have hO2 : OwnV 3 w.heap.size w2 g n (is o) := by
    rw [hw2, hdrop]
    refine OwnV.of k1 (setRow_heap w1 g cur _ 3 _ k2) (by rw [is_length, Hlo.out]; exact Nat.le_refl _) k4 (by simp [Hlo.out]) ?_
    simp only [List.take_zero, List.nil_append, List.append_nil, is_length]
    exact List.take_of_length_le (by simp)
  have hG2 : w1.grownBy w2 (some g) := by
    rw [hw2]; exact ⟨rfl, rfl, rfl, by simp, fun k _ hk => setRow_other w1 g k _ (fun e => hk (by simp [e]))⟩
  have hX2 := ext_trans_grown hX1 hG2 k1
  have hC2 : Chg (fun k => k = g) w1 w2 := Chg.of_grown hG2 rfl
  have d1 := hC2.cell (by omega) c1
  have d2 := hC2.cell (by omega) c2
  have d3 := hC2.cell (by omega) c3
  have d4 := hC2.cell (by omega) c4
  have HO2 := Lib.hid hO2
  have Hrun := Lib.hid hrun
  have hgb := hO2.lt
  have hgq1 : g ≠ w.heap.size := by omega
  have hgq2 : g ≠ w.heap.size + 1 := by omega
  have hwg : w.heap.size ≤ g := by omega
  clear hg hrun hw2 hdrop hO2 hG2 hC2 hb0 k1 k2 k3 k4 k5 k6 hsrc hown1 hgrow1 hE1 c1 c2 c3 c4
  go_wp2_with fail
  rw [Hrun.out]
  go_wp2_with fail
  obtain ⟨p, hp⟩ : ∃ p, p = w.heap.size := ⟨_, rfl⟩
  rw [← hp] at d1 d2 ⊢
  rw [← hp] at d3 d4
  have hgp : g ≠ p ∧ g ≠ p + 1 := ⟨by omega, by omega⟩
  have hgr : gr ≠ g ∨ n = 0 := by
    rcases Nat.eq_zero_or_pos n with h | h
    · exact .inr h
    · have := H.out.pr.2.lt (by rw [is_length, Hlr.out]; exact h)
      left; omega
  have hgu : gu ≠ g ∨ n = 0 := by
    rcases Nat.eq_zero_or_pos n with h | h
    · exact .inr h
    · have := H.out.pu.2.lt (by rw [is_length, Hlu.out]; exact h)
      left; omega
  have Hp := Lib.hid hp
  have hB := hgb.1
  clear hp Hrun
  go_loopw [17] (fun idx wr => ∃ i : Nat, i ≤ n ∧ idx = .int .i64 i ∧ Hid (OwnV 3 w.heap.size wr g n (is (atTo x y i o r u))) ∧ Hid (w2.grownBy wr (some g))) (fun idx _ => n - (intOf idx).toNat)
  case atStart => exact ⟨0, by omega, by go_num, Lib.hid (by show OwnV _ _ _ _ _ (is (atTo x y 0 o r u)); unfold atTo; simpa using HO2.out), Lib.hid (World.grownBy.refl _ _)⟩
  case round =>
    obtain ⟨i, hi', rfl, hO, hG⟩ := hrel
    generalize wr = X at *
    have hXE := ext_trans_grown hX2 hG.out hB
    by_cases hlt : i < n
    · have hii : (i : Int) < (n : Int) := by omega
      have hC : Chg (fun k => k = g) w2 X := Chg.of_grown hG.out rfl
      have e1 := hC.cell (by omega) d1
      have e2 := hC.cell (by omega) d2
      have e3 := hC.cell (by omega) d3
      have e4 := hC.cell (by omega) d4
      have hlen := atTo_length (x := x) (y := y) (i := i) Hlo.out Hlr.out Hlu.out (by omega)
      have c1 := hO.out.cell (j := i) (by rw [is_length, hlen]; exact hlt)
      obtain ⟨a, ha⟩ : ∃ a, a = o.getD i 0 := ⟨_, rfl⟩
      obtain ⟨b, hb⟩ : ∃ b, b = r.getD i 0 := ⟨_, rfl⟩
      obtain ⟨c, hc⟩ : ∃ c, c = u.getD i 0 := ⟨_, rfl⟩
      have h1 : (is (atTo x y i o r u))[i]'(by rw [is_length, hlen]; exact hlt) = .int .i64 a := by
        rw [ha, ← atTo_at (x := x) (y := y) Hlo.out Hlr.out Hlu.out hlt, getD_get (by omega)]; simp [is]
      rw [h1] at c1
      have c2 := (H.out.pr.ext hXE).2.cell i (.int .i64 b) (by rw [hb, getD_get (by rw [Hlr.out]; exact hlt)]; exact is_get (by rw [Hlr.out]; exact hlt))
      have c3 := (H.out.pu.ext hXE).2.cell i (.int .i64 c) (by rw [hc, getD_get (by rw [Hlu.out]; exact hlt)]; exact is_get (by rw [Hlu.out]; exact hlt))
      rw [Nat.zero_add] at c2 c3
      have ba : -1000000000 ≤ a ∧ a ≤ 1000000000 := by rw [ha, getD_get (by rw [Hlo.out]; exact hlt)]; exact Hbo.out _ (List.getElem_mem _)
      have bb : -1000000000 ≤ b ∧ b ≤ 1000000000 := by rw [hb, getD_get (by rw [Hlr.out]; exact hlt)]; exact Hbr.out _ (List.getElem_mem _)
      have bc : -1000000000 ≤ c ∧ c ≤ 1000000000 := by rw [hc, getD_get (by rw [Hlu.out]; exact hlt)]; exact Hbu.out _ (List.getElem_mem _)
      have m1 := mul_i64 ⟨hx1, hx2⟩ bb
      have m2 := mul_i64 ⟨hy1, hy2⟩ bc
      have w1' : IntKind.i64.wrap (x * b) = x * b := IntWalk.i64_in _ (by omega)
      have w2' : IntKind.i64.wrap (y * c) = y * c := IntWalk.i64_in _ (by omega)
      have w3' : IntKind.i64.wrap (x * b + y * c) = x * b + y * c := IntWalk.i64_in _ (by omega)
      have w4' : IntKind.i64.wrap (a + (x * b + y * c)) = a + (x * b + y * c) := IntWalk.i64_in _ (by omega)
      have Hst := Lib.hid (atTo_step (x := x) (y := y) (i := i) Hlo.out Hlr.out Hlu.out hlt)
      rw [← ha, ← hb, ← hc] at Hst
      have k1 := cell_regrown e1
      have k2 := cell_regrown e2
      have k3 := cell_regrown e3
      have k4 := cell_regrown e4
      have k5 := cell_regrown c1
      have k6 := cell_regrown c2
      have k7 := cell_regrown c3
      have q1 := c1
      clear ha hb hc h1 hlen ba bb bc m1 m2
      go_wp2_with fail
      refine wp_region_quiet_tail 22 (by kernel_rfl) (by kernel_rfl) ?_
      simp only [List.take_succ_cons, List.take_zero, List.drop_succ_cons, List.drop_zero]
      repeat (go_big_quiet_step (fail))
      refine wpQuiet_nil ?_
      intro _ hw'
      obtain ⟨⟨dq, osq⟩, hw''⟩ := hw'
      subst hw''
      have hE5 := ext_regrown X dq osq
      have d5 := hE5.cell q1
      clear k1 k2 k3 k4 k5 k6 k7
      generalize grow (redrawn X dq) osq = w5 at *
      have f5 := (hO.out.ext hE5).frozen i
      obtain ⟨hO6, hG6⟩ := (hO.out.ext hE5).set i (.int .i64 (a + (x * b + y * c)))
      rw [← is_set, ← Hst.out] at hO6
      have HO6 := Lib.hid hO6
      have HG6 := Lib.hid (grown_trans hG.out (grown_trans (grown_ext hE5 (some g)) hG6))
      clear hO6 hG6 hE5
      go_wp2_with fail
      go_roundw
      case rel => exact ⟨i + 1, by omega, by go_num, HO6, HG6⟩
      case measure => simp [intOf] <;> omega
    · have hii : ¬ (i : Int) < (n : Int) := by omega
      have hin : i = n := by omega
      have hall : atTo x y i o r u = atL x y o r u := by
        unfold atTo
        rw [List.take_of_length_le (by rw [atL_length _ _ _ _ _ (by rw [Hlo.out, Hlr.out]) (by rw [Hlo.out, Hlu.out]), Hlo.out]; omega), List.drop_of_length_le (by rw [Hlo.out]; omega), List.append_nil]
      rw [hall] at hO
      clear hall
      go_wp2_with fail
      go_ret
      exact ⟨g, rfl, hO.out, hXE⟩
end Go.Proofs.YtokjolmpdfmnbaaGreatDoor
