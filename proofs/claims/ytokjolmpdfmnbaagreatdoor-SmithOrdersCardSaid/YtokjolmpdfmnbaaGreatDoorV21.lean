/- Part 21 of the proof of the claim: contracts of the functions that it reaches, and plain laws; no condition. -/
import Derived.Test.YtokjolmpdfmnbaaGreatDoorV20
import Derived.Deep.RegionHeld3
import Derived.Deep.CutRange
import Derived.Test.YtokjolmpdfmnbaaGreatDoorV18
import Derived.Test.YtokjolmpdfmnbaaGreatDoorV15
import Derived.BigQuiet
namespace Go.Proofs.YtokjolmpdfmnbaaGreatDoor
open Go.RowKit Go.Sort
theorem upr_step {c i : Nat} {H : Mx} (h : i < H.length) : upr c (H.take (i + 1)) = if pv H[i] < c then upr c (H.take i) ++ [H[i]] else upr c (H.take i) := by
  unfold upr
  rw [take_snocM h, List.filter_append]
  by_cases hp : pv H[i] < c
  · rw [if_pos hp, List.filter_cons_of_pos (by simp [hp])]; simp
  · rw [if_neg hp, List.filter_cons_of_neg (by simp [hp])]; simp
theorem upr_len (c : Nat) (H : Mx) : (upr c H).length ≤ H.length := List.length_filter_le _ _
theorem krn_len2 (c : Nat) (H : Mx) : (krn c H).length ≤ H.length := by unfold krn low; rw [List.length_map]; exact List.length_filter_le _ _
theorem pv_lt_take {l : List Int} {c : Nat} (hc : c ≤ l.length) : pv l < c ↔ ¬ zeroL (l.take c) := by
  constructor
  · intro h hz
    have := zero_vr.1 hz (pv l)
    rw [vr_take, if_pos h] at this
    exact pv_ne (by omega) this
  · intro h
    refine Classical.byContradiction fun hc2 => h (zero_vr.2 fun j => ?_)
    rw [vr_take]
    by_cases hj : j < c
    · rw [if_pos hj]; exact pv_zero (by omega)
    · rw [if_neg hj]
def SolPost (w : World) (M : Mx) (c : Nat) (b : List Int) (e : Ending) (w' : World) : Prop :=
  ∃ H, HnfOf (c + M.length) (wideM M) H ∧ Ext w w' ∧
    ((¬ zeroL ((solL c H M.length b).take c) ∧ e = .returned (.tuple #[.slice none 0 0, .bool false, .int .i64 0]))
      ∨ (zeroL ((solL c H M.length b).take c) ∧ smallB (solX c H M.length b) = true ∧ ∃ v, e = .returned (.tuple #[v, .bool true, .int .i64 0]) ∧ RowV w.heap.size w' v (solX c H M.length b))
      ∨ (zeroL ((solL c H M.length b).take c) ∧ smallB (solX c H M.length b) = false ∧ e = .returned (.tuple #[.slice none 0 0, .bool false, .int .i64 4])))
theorem box_a {X W : World} {T : TypeId} {o : Obj} {v : Value} (h : Ext (((X.alloc (.cells #[v] T)).alloc o).drew) W) : W.cell? ⟨X.heap.size, 0, none⟩ = some v ∧ X.heap.size < W.heap.size :=
  ⟨h.cell (by go_simp), by have := h.size; simp at this; omega⟩
theorem box_b {X W : World} {T : TypeId} {o : Obj} {v : Value} (h : Ext (((X.alloc o).alloc (.cells #[v] T)).drew) W) : W.cell? ⟨X.heap.size + 1, 0, none⟩ = some v ∧ X.heap.size + 1 < W.heap.size :=
  ⟨h.cell (by go_simp), by have := h.size; simp at this; omega⟩
set_option maxRecDepth 100000 in
set_option maxHeartbeats 2000000 in
theorem Solve_any {w : World} {vm vb : Value} {M : Mx} {b : List Int} {c E : Nat} (hM : MatR w vm M) (hb : RowR w vb b) (hs0 : sizeE M b = 0) (h0 : 0 < M.length) (hc : c = ncols M) (hEe : E = bC M.length 30 (c + M.length))
    (hE : 2 * ((E + (E + 1) * M.length) + ((E + (E + 1) * M.length) + 1) * M.length) + 6 < LIM) (hL : Laid w) :
    Calls Tryz.prog 40 #[vm, vb] w (SolPost w M c b) := by
  obtain ⟨hck, hrk, hbl⟩ := sizeE_ok hs0
  obtain ⟨hl12, hn12, hRt, hent⟩ := checkM_ok hck
  obtain ⟨hb64, hbent⟩ := chkRow_ok hrk
  have hbc : b.length = c := by rw [hc]; exact hbl h0
  rw [← hc] at hn12 hRt
  have hsz := Lib.hid (sized_any hM hb)
  rw [hs0] at hsz
  obtain ⟨N, hN⟩ : ∃ N, N = M.length := ⟨_, rfl⟩
  have hwd := Lib.hid (fun W (hW : Ext w W) => wide_any (hM.ext hW) hRt h0 (by omega) (by omega) hent (by rw [← hEe]; have : (E + 1) * M.length ≥ (E + 1) * 1 := Nat.mul_le_mul_left _ h0; omega) (hL.ext hW))
  have hbig := Lib.hid (fun W (bx : Nat) (sb : Option Addr) (bb ob cb : Nat) (hW : Ext w W) (hS : Sl w sb bb ob (is b)) (hcb : b.length ≤ cb) (hbx : W.cell? ⟨bx, 0, none⟩ = some (.slice sb b.length cb)) =>
    sbig_any (w := W) (v := .slice (some ⟨bx, 0, none⟩) 1 1) (M := [b]) ⟨_, bx, 0, 1, [.slice sb b.length cb], rfl, Nat.le_refl _, rfl, ⟨fun _ => rfl, fun i x hx => by
      have : i = 0 := by have := (List.getElem?_eq_some_iff.1 hx).1; simp at this; omega
      subst this
      simp only [List.getElem?_cons_zero, Option.some.injEq] at hx
      rw [← hx]; exact hbx⟩, fun i a bb' => by
      have : i = 0 := by simp at a; omega
      subst this
      exact ⟨sb, bb, ob, cb, rfl, hcb, hS.ext hW⟩⟩ (by simp) (fun r hr => by simp at hr; subst hr; omega) (fun r hr z hz => by simp at hr; subst hr; have := hbent z hz; unfold I64; omega) (hL.ext hW))
  obtain ⟨sb, bb, ob, cb, rfl, hcb, hSb⟩ := hb
  obtain ⟨sa, gb, go, cap, vs, rfl, hcap, hvl, hS, hr⟩ := hM
  obtain rfl := hS.addr (by omega)
  have hrep := Lib.hid (fun W (bx : Nat) (hW : W.cell? ⟨bx, 0, none⟩ = some (I 0)) => repeat_any (m := N) (by omega) (b := bx) (o := 0) (c := 1) (z := 0) (w := W) hW)
  obtain ⟨s0, hs, hy0, hy1, hy2⟩ := info_parts Tryz.infoStr
  have HSb := Lib.hid hSb
  have HRt := Lib.hid hRt
  have Hent := Lib.hid hent
  have Hbent := Lib.hid hbent
  have HE := Lib.hid hE
  have HEe := Lib.hid hEe
  have HL := Lib.hid hL
  have HN := Lib.hid hN
  have Hbc := Lib.hid hbc
  have hN2 : 0 < N := by omega
  have hN12 : N ≤ 12 := by omega
  have hN0 : (N == 0) = false := beq_eq_false_iff_ne.2 (by omega)
  have hN1 : ((N : Int) == 0) = false := beq_eq_false_iff_ne.2 (by omega)
  have hz1 : I 0 = .string ⟨#[48]⟩ := by unfold I S; rw [itoa_zero]
  have Hz1 := Lib.hid hz1
  rw [← hN] at hsz hwd h0 hcap hl12 ⊢
  rw [hbc] at hsz hcb hbig ⊢
  clear hs0 hck hrk hbl hRt hent hbent hSb hE hEe hL hN hbc hS hvl hr hc hz1
  go_enter Tryz.func40, Tryz.ntmps40
  go_wp2_with fail
  refine hsz.out.mono ?_
  rintro e w1 ⟨rfl, hE1⟩
  go_wp2_with fail
  refine (hwd.out _ hE1).mono ?_
  rintro e w2 ⟨g, cp, H, rfl, hH, hHl, hG, hHb, hE2⟩
  rw [← HN.out] at hHl
  have hE12 := hE1.trans hE2
  have HH := Lib.hid hH
  have HG := Lib.hid hG
  have HHb := Lib.hid hHb
  clear hsz hwd hH hG hHb
  go_upto_region 7 with fail
  go_cut [10] from 32 to 42 (fun lv wx => ∃ gl cl, lv = slv gl (c + N) cl ∧ Hid (OwnV 94 w2.heap.size wx gl cl (ss (b ++ List.replicate N 0))) ∧ Ext w2 wx)
  case first =>
    have d7 : Ext w2 w2.drew := (Ext.refl w2).drew
    have hcbI : (c : Int) ≤ (cb : Int) := by omega
    have hNews : ∀ W gr cr, OwnV 94 0 W gr cr (ss (List.replicate N 0)) → ∀ (j : Nat) (u : Value), (ss (List.replicate N 0))[j]? = some u → W.cell? ((⟨gr, 0, none⟩ : Addr).add j) = some u := fun W gr cr hO j u hj => by
      have h2 := hO.sl.cell j u hj
      simpa [Addr.add_lit] using h2
    have HNews := Lib.hid hNews
    have HOne := Lib.hid (show ∀ u ∈ ss (List.replicate N 0), u.oneCell' = true from fun u hu => by
      obtain ⟨y, _, rfl⟩ := List.mem_map.1 hu
      rfl)
    have Hzl := Lib.hid (show (ss (List.replicate N 0)).length = N * 1 by rw [ss_length]; simp)
    clear hNews
    go_region_law (first
      | (go_simp; go_at_call 44; refine (hbig.out _ _ sb bb ob cb (hE12.trans (by first | exact ((Ext.refl w2).alloc _).drew | exact (((Ext.refl w2).alloc _).alloc _).drew)) HSb.out hcb (by go_simp)).mono ?_; rintro e W7 ⟨v1, ad1, rfl, hG7, hE7⟩; obtain ⟨ga1, cap1, rfl, hcap1, hs1⟩ := hG7.shape; obtain ⟨g1, rfl⟩ := hs1 (by simp); have HG7 := Lib.hid hG7; obtain ⟨gx, cx, _, hx1, hx2, _⟩ := hG7.hd (i := 0) (by simp); have HI7 := Lib.hid (show IntsV w2.heap.size W7 (xv b.length gx cx) b from IntsV.mono hx2 (by simp <;> omega)); obtain ⟨xa, xl, xk, hxv⟩ := xv_slice b.length gx cx; have Hxv := Lib.hid hxv; simp only [List.getD_cons_zero] at hx1; rw [hxv] at hx1; have hx1s : g1 < W7.heap.size := World.block_lt_of_cell? _ _ hx1; have h67 := Ext.trans (show Ext w2 _ by first | exact ((Ext.refl w2).alloc _).drew | exact (((Ext.refl w2).alloc _).alloc _).drew) hE7; clear hG7 hx2 hxv; (first | (have zz := box_a (v := .string ⟨#[48]⟩) hE7; obtain ⟨z7, z8⟩ := zz) | (have zz := box_b (v := .string ⟨#[48]⟩) hE7; obtain ⟨z7, z8⟩ := zz) | skip))
      | (go_simp; go_at_call 86; refine (hrep.out _ _ (by rw [Hz1.out]; first | exact z7 | go_simp)).mono ?_; rintro e W8 ⟨gr, cr, rfl, hO8, hE8⟩; have hx8 := hE8.cell (by first | exact hx1 | exact ((Ext.refl W7).alloc _).cell hx1); have h78 := Ext.trans (show Ext W7 _ by first | exact Ext.refl _ | exact (Ext.refl _).alloc _) hE8; have HN8 := Lib.hid (HNews.out _ _ _ (hO8.mono (Nat.zero_le _))); have HI8 := Lib.hid (show IntsV w2.heap.size W8 (xv b.length gx cx) b from HI7.out.ext h78); have h68 := Ext.trans h67 h78; have hs68 := h68.size; clear hO8)
      | (refine step_append_lies _ (by rfl) _ _ _ (by rfl) w2.heap.size 94 s0 _ 1 16 Tryz.underlying99 hs hy0 hy1 hy2 rfl (by omega) (xv b.length gx cx) b.length (ss b) (by rw [Hxv.out]; rfl) HI8.out ⟨gr, 0, none⟩ N cr (ss (List.replicate N 0)) (by rfl) Hzl.out HN8.out HOne.out hN2 (by have := Hbc.out; unfold maxLen; omega) (by have := Hbc.out; omega) hs68 W8.heap.size (by simp) ?_; intro gg cap9 w9 hown9 hgrow9 hat9 hlt9; have h9 : Ext w2 w9 := Ext.mk' (Below.grown h68 hgrow9 hs68 (fun q hq => (World.ownsRow.lt HI8.out q hq).1)); have H9 := Lib.hid (show OwnV 94 w2.heap.size w9 gg cap9 (ss (b ++ List.replicate N 0)) by unfold OwnV; rw [ss_append, List.length_append, Hzl.out, ss_length, Nat.mul_one]; exact hown9); clear hown9 hgrow9 hat9))
    all_goals (try go_wp2_with fail)
    all_goals go_meet
    all_goals exact ⟨gg, cap9, by rw [← Hbc.out], H9, h9⟩
  case rest =>
    obtain ⟨gl, cl, rfl, hO, hE3⟩ := hcut
    generalize wc = X at *
    have hE13 := hE12.trans hE3
    obtain ⟨ps, hI⟩ := HH.out.1
    have hup := upr_rows (c := c) hI
    rw [← HN.out] at hup
    have HRtH := Lib.hid (show Rect (c + N) H by have := hI.rect; rw [← HN.out] at this; exact this)
    have Hup := Lib.hid hup
    have HE0 := Lib.hid (show 30 ≤ E by rw [HEe.out]; have := bC_mono M.length 30 0 (c + M.length); rw [Nat.zero_add] at this; simpa [bC] using this)
    have HHb2 := Lib.hid (show ∀ r ∈ H, ∀ z ∈ r, z.natAbs < 2 ^ E by rw [HEe.out]; exact HHb.out)
    have hEn := HE.out
    rw [← HN.out] at hEn
    have HEN := Lib.hid hEn
    clear hI hup hEn
    obtain ⟨sg, bg, og, cg, vg, hgv, hgc, hgl, hgS, hgr⟩ := HG.out
    injection hgv with q1 _ q3
    subst q3
    have HgS := Lib.hid hgS
    have Hgl := Lib.hid hgl
    have Hgr := Lib.hid hgr
    have Hq1 := Lib.hid q1
    have hHc : (H.length : Int) ≤ (cp : Int) := by omega
    clear hgS hgl hgr q1
    go_wp2_with fail
    go_loopw [11, 44] (fun out idx wr => ∃ i : Nat, i ≤ H.length ∧ idx = .int .i64 i ∧ Hid (RdO X.heap.size X wr out (upr c (H.take i))) ∧ Ext X wr) (fun _ idx _ => H.length - (intOf idx).toNat)
    case atStart => exact ⟨0, by omega, by go_num, Lib.hid (RdO.nil _ _ _), Ext.refl _⟩
    case round =>
      obtain ⟨i, hi', rfl, hV, hE4⟩ := hrel
      generalize wr = Y at *
      by_cases hlt : i < H.length
      · have hii : (i : Int) < (H.length : Int) := by omega
        have hq := HgS.out.addr (by rw [Hgl.out]; omega)
        rw [← Hq1.out] at hq
        injection hq with hq
        injection hq with hq1 hq2
        obtain ⟨sr, br, or, cr, hrow, hrc, hSr⟩ := GridR.row HgS.out Hgl.out Hgr.out hlt
        rw [← hq1, ← hq2, Nat.zero_add] at hrow
        have hrl : H[i].length = c + N := HRtH.out _ (List.getElem_mem hlt)
        have hstep := upr_step (c := c) hlt
        obtain ⟨r, hr⟩ : ∃ r, r = H[i] := ⟨_, rfl⟩
        rw [← hr] at hrow hrc hSr hrl hstep
        rw [hrl] at hrow hrc
        have hrow' := (hE3.trans hE4).cell hrow
        obtain rfl := hSr.addr (by rw [ss_length]; omega)
        have Hrd := Lib.hid (show IntsR X (.slice (some ⟨br, or, none⟩) (c + N) cr) r from ⟨_, br, or, cr, by rw [hrl], by rw [hrl]; exact hrc, hSr.ext hE3⟩)
        have hld := Lib.hid (slead_any (w := Y) (cap := cr) (hSr.ext (hE3.trans hE4)) (by omega))
        rw [hrl] at hld
        have Hul := Lib.hid (show (upr c (H.take i)).length ≤ 1000000000 by have := upr_len c (H.take i); rw [List.length_take] at this; omega)
        clear hq1 hq2 hr hrow hrc hSr hrl
        obtain ⟨p, hp⟩ : ∃ p, p = pv r := ⟨_, rfl⟩
        rw [← hp] at hstep hld
        by_cases hpc : p < c
        · have hpi : (p : Int) < (c : Int) := by omega
          rw [if_pos hpc] at hstep
          have Hstep := Lib.hid hstep
          have hXY := hE4.size
          clear hstep hp hpc
          go_wp2_with fail
          refine hld.out.mono ?_
          rintro e W ⟨rfl, hW⟩
          have hWX := hW.size
          go_wp2_with (at_builtin; refine app_rd rfl _ _ rfl (B := X.heap.size) (w0 := X) rfl ((hV.out.ext hW).ext ((Ext.refl _).alloc _)) rfl (b := W.heap.size) (rv := .slice (some ⟨br, or, none⟩) (c + N) cr) (r := r) (by go_simp) Hrd.out Hul.out (by simp; omega) ?_; intro gg cap2 w8 hO8 hB8 hG8; rw [← Hstep.out] at hO8)
          have hE8 : Ext X w8 := Below.trans ((hE4.trans hW).alloc _) hB8
          have HO8 := Lib.hid hO8
          clear hG8 hB8 hO8
          go_wp2_with fail
          go_roundw
          case rel => exact ⟨i + 1, by omega, by go_num, Lib.hid (by
            have h1 := HO8.out
            rw [Hstep.out] at h1 ⊢
            simpa using h1), hE8⟩
          case measure => simp [intOf] <;> omega
        · have hpi : ¬ (p : Int) < (c : Int) := by omega
          rw [if_neg hpc] at hstep
          have Hstep := Lib.hid hstep
          clear hstep hp hpc
          go_wp2_with fail
          refine hld.out.mono ?_
          rintro e W ⟨rfl, hW⟩
          go_wp2_with fail
          go_roundw
          case rel => exact ⟨i + 1, by omega, by go_num, Lib.hid (by rw [Hstep.out]; exact hV.out.ext hW), hE4.trans hW⟩
          case measure => simp [intOf] <;> omega
      · have hie : i = H.length := by omega
        have hV2 := hV.out
        rw [hie, List.take_length] at hV2
        have hgrd := hV2.grid hE4
        have hii : ¬ (i : Int) < (H.length : Int) := by omega
        have hxl : (b ++ List.replicate N 0).length = c + N := by rw [List.length_append, Hbc.out, List.length_replicate]
        have hbx : ∀ z ∈ b ++ List.replicate N 0, z.natAbs < 2 ^ E := fun z hz => by
          have e : (2 : Nat) ^ 30 = 1073741824 := by decide
          have h3 : 2 ^ 30 ≤ 2 ^ E := Nat.pow_le_pow_right (by omega) HE0.out
          rcases List.mem_append.1 hz with hz | hz
          · have := Hbent.out z hz; omega
          · have := (List.mem_replicate.1 hz).2; omega
        have hul := upr_len c H
        have hmul : (E + 1) * (upr c H).length ≤ (E + 1) * N := Nat.mul_le_mul_left _ (by omega)
        have hred := Lib.hid (reduced_any (w := Y) hgrd Hup.out.1 ((hO.out.ext hE4).intsR hxl) hxl (by omega) (by omega) (by omega) (fun r hr => (Hup.out.2 r hr).2) (fun r hr => HHb2.out r (List.mem_filter.1 hr).1) hbx (by have := HEN.out; omega) (HL.out.ext (hE13.trans hE4)))
        have hl1b := Lib.hid (show ∀ z ∈ solL c H N b, z.natAbs < 2 ^ (E + (E + 1) * N) from fun z hz => by
          have h3 := redX_bits (F := upr c H) (x := b ++ List.replicate N 0) (E := E) (fun r hr => by rw [Hup.out.1 r hr]; exact (Hup.out.2 r hr).2) (fun r hr => HHb2.out r (List.mem_filter.1 hr).1) hbx (upr c H).length (Nat.le_refl _) z (by rw [List.take_length]; exact hz)
          exact Nat.lt_of_lt_of_le h3 (Nat.pow_le_pow_right (by omega) (by omega)))
        have hEY := hE13.trans hE4
        rw [show redX (upr c H) (b ++ List.replicate N 0) = solL c H N b from rfl] at hred
        clear hie hV hV2 hgrd hxl hbx hul hmul hlt hO
        go_wp2_with fail
        refine hred.out.mono ?_
        rintro e w4 ⟨gx, cx, rfl, hX4, hE5⟩
        obtain ⟨l1, hl1⟩ : ∃ l1, l1 = solL c H N b := ⟨_, rfl⟩
        rw [← hl1] at hX4 hl1b
        have hl1l : l1.length = c + N := by rw [hl1, solL_length, Hbc.out]
        have hgl := hX4.lt
        have hcx := hX4.cap
        rw [ss_length, hl1l] at hcx
        have HX4 := Lib.hid hX4
        have Hl1 := Lib.hid hl1
        have Hl1l := Lib.hid hl1l
        have hld := Lib.hid (slead_any (w := w4) (cap := cx) hX4.sl (by omega : l1.length ≤ 1000000))
        rw [hl1l] at hld
        have hdec := pv_lt_take (l := l1) (c := c) (by omega)
        have Hdec := Lib.hid hdec
        obtain ⟨p, hp⟩ : ∃ p, p = pv l1 := ⟨_, rfl⟩
        rw [← hp] at hld Hdec
        have hE6 := hEY.trans hE5
        clear hX4 hl1 hl1l hdec hp hred
        by_cases hpc : p < c
        · have hpi : (p : Int) < (c : Int) := by omega
          have hnz := Hdec.out.1 hpc
          have Hres := Lib.hid (fun W (hW : Ext w4 W) => show SolPost w M c b (.returned (.tuple #[.slice none 0 0, .bool false, .int .i64 0])) W from ⟨H, HH.out, hE6.trans hW, .inl ⟨by rw [← HN.out, ← Hl1.out]; exact hnz, rfl⟩⟩)
          clear hpc hnz
          go_wp2_with fail
          refine hld.out.mono ?_
          rintro e w5 ⟨rfl, hE7⟩
          go_wp2_with fail
          go_ret3
          exact Hres.out _ hE7
        · have hpi : ¬ (p : Int) < (c : Int) := by omega
          have HZ := Lib.hid (show zeroL (l1.take c) from Classical.byContradiction fun h => hpc (Hdec.out.2 h))
          have hE1' : 2 * (E + (E + 1) * N) + 2 < LIM := by have := HEN.out; omega
          have htn := Lib.hid (fun W (hW : Ext w4 W) => sturn_part (B := Y.heap.size) (w := W) (o := c) (n := N) (cp := cx - c) (HX4.out.ext hW) (by rw [Hl1l.out]) (by omega) (fun z hz => by have := nd_lt2 (hl1b.out z hz); omega))
          have hcI : (c : Int) ≤ ((c + N : Nat) : Int) := by omega
          have hcI2 : (c : Int) ≤ (cx : Int) := by omega
          have hcast : ((c + N : Nat) : Int) = (c : Int) + (N : Int) := by omega
          have hcne : ¬ cx = c := by omega
          have hcne2 : ¬ cx - c = 0 := by omega
          clear hpc
          go_wp2_with fail
          refine hld.out.mono ?_
          rintro e w5 ⟨rfl, hE7⟩
          have hE57 := hE6.trans hE7
          go_wp2_with fail
          refine (htn.out _ hE7).mono ?_
          rintro e w6 ⟨rfl, hX6, hG6⟩
          have hE8 : Ext X w6 := ext_trans_grown (((hE4.trans hE5).trans hE7)) hG6 (by have := hE4.size; omega)
          have hE38 := hE3.trans hE8
          have hE18 := hE13.trans hE8
          have hx0l : (negM (l1.drop c)).length = N := by rw [negM_length, List.length_drop, Hl1l.out]; omega
          have hxx : l1.take c ++ (l1.drop c).map (fun z => -z) = l1.take c ++ negM (l1.drop c) := rfl
          have htl : (l1.take c).length = c := by rw [List.length_take, Hl1l.out]; omega
          rw [hxx] at hX6
          have hxr : IntsR w6 (.slice (some ⟨gx, c, none⟩) N (cx - c)) (negM (l1.drop c)) := by
            refine ⟨_, gx, c, cx - c, by rw [hx0l], by rw [hx0l]; omega, ?_⟩
            have := hX6.sl.drop (c := c) (ga' := some ⟨gx, 0 + c, none⟩) rfl
            rw [ss_drop, List.drop_left' htl, Nat.zero_add] at this
            exact this
          have Hxr := Lib.hid hxr
          have Hx0l := Lib.hid hx0l
          have hx0b : ∀ z ∈ negM (l1.drop c), z.natAbs < 2 ^ (E + (E + 1) * N) := fun z hz => by
            obtain ⟨y, hy, rfl⟩ := List.mem_map.1 hz
            rw [Int.natAbs_neg]; exact hl1b.out y (List.mem_of_mem_drop hy)
          have Hx0b := Lib.hid hx0b
          obtain ⟨qs, hK, _⟩ := krn_form HRt.out HH.out
          have HK := Lib.hid hK
          have hkl := krn_len2 c H
          have Hkb := Lib.hid (show ∀ r ∈ krn c H, ∀ z ∈ r, z.natAbs < 2 ^ (E + (E + 1) * N) from fun r hr z hz => by
            obtain ⟨s, hs, rfl⟩ := List.mem_map.1 hr
            have := HHb2.out s (List.mem_filter.1 hs).1 z (List.mem_of_mem_drop hz)
            exact Nat.lt_of_lt_of_le this (Nat.pow_le_pow_right (by omega) (by omega)))
          have hkr := Lib.hid (kernel_any (w := w6) (c := c) (m := N) (HG.out.ext hE38) HRtH.out hN2 (by omega) (by omega))
          have hmul : (E + (E + 1) * N + 1) * (krn c H).length ≤ (E + (E + 1) * N + 1) * N := Nat.mul_le_mul_left _ (by omega)
          have hrd2 := Lib.hid (fun W vF (hW : Ext w6 W) (hF : GridR W vF (krn c H)) => reduced_any (w := W) (m := N) hF (by have := HK.out.rect; rw [← HN.out] at this; exact this) (Hxr.out.ext hW) Hx0l.out hN2 (by omega) (by omega) (fun r hr => by
            obtain ⟨i, hi, rfl⟩ := List.getElem_of_mem hr
            have := HK.out.lt i hi
            rw [HK.out.pvs hi, getD_get hi, ← HN.out] at this
            exact this) Hkb.out Hx0b.out (by have := HEN.out; omega) (HL.out.ext (hE18.trans hW)))
          have hsolx : redX (krn c H) (negM (l1.drop c)) = solX c H N b := by rw [Hl1.out]; rfl
          rw [hsolx] at hrd2
          have Hsb := Lib.hid (show ∀ z ∈ solX c H N b, nd z ≤ LIM from fun z hz => by
            have h3 := redX_bits (F := krn c H) (x := negM (l1.drop c)) (E := E + (E + 1) * N) (fun r hr => by
              obtain ⟨i, hi, rfl⟩ := List.getElem_of_mem hr
              have h4 := HK.out.lt i hi
              rw [HK.out.pvs hi, getD_get hi, ← HN.out] at h4
              have h5 : (krn c H)[i].length = N := by have := HK.out.rect _ (List.getElem_mem hi); rw [← HN.out] at this; exact this
              omega) Hkb.out Hx0b.out (krn c H).length (Nat.le_refl _) z (by rw [List.take_length, hsolx]; exact hz)
            have := nd_lt2 h3
            have := HEN.out
            omega)
          have hsxl : (solX c H N b).length = N := solX_length Hbc.out
          have Hsxl := Lib.hid hsxl
          have hsml := Lib.hid (fun W bx gz cz (hW : Ext w6 W) (hZ : OwnV 94 0 W gz cz (ss (solX c H N b))) (hbx : W.cell? ⟨bx, 0, none⟩ = some (slv gz N cz)) =>
            ssmall_any (w := W) (v := .slice (some ⟨bx, 0, none⟩) 1 1) (M := [solX c H N b]) ⟨_, bx, 0, 1, [slv gz N cz], rfl, Nat.le_refl _, rfl, ⟨fun _ => rfl, fun i x hx => by
              have : i = 0 := by have := (List.getElem?_eq_some_iff.1 hx).1; simp at this; omega
              subst this
              simp only [List.getElem?_cons_zero, Option.some.injEq] at hx
              rw [← hx]; exact hbx⟩, fun i a bb' => by
              have : i = 0 := by simp at a; omega
              subst this
              exact hZ.intsR Hsxl.out⟩ (by simp) (fun r hr => by simp at hr; subst hr; rw [Hsxl.out]; omega) (fun r hr z hz => by simp at hr; subst hr; exact Hsb.out z hz) (HL.out.ext (hE18.trans hW)))
          have HZ2 := Lib.hid (show zeroL ((solL c H M.length b).take c) by rw [← HN.out, ← Hl1.out]; exact HZ.out)
          clear hX6 hxr hx0l hx0b hK hkl hmul hsolx hsxl hxx htl htn hld
          go_wp2_with fail
          refine hkr.out.mono ?_
          rintro e w7 ⟨vK, rfl, hgK, hE9⟩
          obtain ⟨ka, kb, ko, kc, kv, hkv, hk2⟩ := id hgK
          have HgK := Lib.hid hgK
          clear hgK hk2
          subst hkv
          go_wp2_with fail
          refine (hrd2.out _ _ hE9 HgK.out).mono ?_
          rintro e w8 ⟨gz, cz, rfl, hZ8, hE10⟩
          have HZ8 := Lib.hid (hZ8.mono (Nat.zero_le _))
          clear hZ8
          have hE610 := hE9.trans hE10
          go_wp2_with fail
          refine (hsml.out _ w8.heap.size gz cz (hE610.alloc _) (HZ8.out.ext ((Ext.refl _).alloc _)) (by go_simp)).mono ?_
          rintro e w9 ⟨hp9, hE11⟩
          have hfin := hE18.trans ((hE610.alloc _).trans hE11)
          cases hs : smallB (solX c H N b)
          · have hsm : smallM [solX c H N b] = false := by simp [smallM, hs]
            rw [if_neg (by rw [hsm]; decide)] at hp9
            subst hp9
            have Hres := Lib.hid (show SolPost w M c b (.returned (.tuple #[.slice none 0 0, .bool false, .int .i64 4])) w9 from ⟨H, HH.out, hfin, .inr (.inr ⟨HZ2.out, by rw [← HN.out]; exact hs, rfl⟩)⟩)
            clear hs hsm
            go_wp2_with fail
            go_ret3
            exact Hres.out
          · have hsm : smallM [solX c H N b] = true := by simp [smallM, hs]
            rw [if_pos hsm] at hp9
            obtain ⟨vr, rfl, hvr⟩ := hp9
            obtain ⟨vs9, hv1, hv2, hv3⟩ := hvr
            have h90 := hv3 0 (by simp) (by rw [hv1]; simp)
            rcases hv2.2 with ⟨_, h0'⟩ | ⟨g9, c9, cur9, rfl, _, _, hc9, _⟩
            · simp at h0'
            · have hc9' := World.ownsRow.cellAt hv2 0 (by simp)
              rw [List.getElem?_eq_getElem (by rw [hv1]; simp)] at hc9'
              simp only [List.length_singleton] at hc9 hc9'
              obtain ⟨rv, hrv⟩ : ∃ rv, rv = vs9[0]'(by rw [hv1]; simp) := ⟨_, rfl⟩
              rw [← hrv] at hc9' h90
              have hc10 : w9.cell? ⟨g9, 0, none⟩ = some rv := by simpa using hc9'
              have hsz8 := (hE18.trans (hE610.alloc (.cells #[slv gz N cz] 99))).size
              have Hres := Lib.hid (show SolPost w M c b (.returned (.tuple #[rv, .bool true, .int .i64 0])) w9 from ⟨H, HH.out, hfin, .inr (.inl ⟨HZ2.out, by rw [← HN.out]; exact hs, rv, rfl, by rw [← HN.out]; exact RowV.mono h90 hsz8⟩)⟩)
              clear hs hsm h90 hv1 hv2 hv3 hrv hc9'
              go_wp2_with fail
              go_ret3
              exact Hres.out
end Go.Proofs.YtokjolmpdfmnbaaGreatDoor
namespace Go.Proofs.YtokjolmpdfmnbaaGreatDoor
open Go.RowKit Go.Sort
structure CbOk (M : Mx) (l : List Int) (c : Nat) : Prop where
  n3 : M.length ≤ 3
  len : l.length = M.length
  rect : Rect c M
  c3 : c ≤ 3
  ent : ∀ r ∈ M, ∀ z ∈ r, -9 ≤ z ∧ z ≤ 9
  fac : ∀ z ∈ l, -1000000000 ≤ z ∧ z ≤ 1000000000
end Go.Proofs.YtokjolmpdfmnbaaGreatDoor
namespace Go.Proofs.YtokjolmpdfmnbaaGreatDoor
open Hnf
theorem eM_row {M : Mx} {i : Nat} (h : M.length ≤ i) (j : Nat) : eM M i j = 0 := by
  unfold eM
  have : M.getD i [] = [] := by simp [List.getD, List.getElem?_eq_none h]
  rw [this]; simp
theorem cmb_T3 {M : Mx} (h : M.length ≤ 3) (y : V) (j : Nat) : cmb M y j = T3 (eM M) y j := by
  unfold cmb T3
  rcases (show M.length = 0 ∨ M.length = 1 ∨ M.length = 2 ∨ M.length = 3 by omega) with e | e | e | e
  · rw [e, eM_row (i := 0) (by omega), eM_row (i := 1) (by omega), eM_row (i := 2) (by omega)]; simp [sumZ]
  · rw [e, eM_row (i := 1) (by omega), eM_row (i := 2) (by omega)]; simp [sumZ]
  · rw [e, eM_row (i := 2) (by omega)]; simp [sumZ]
  · rw [e]; simp [sumZ]
end Go.Proofs.YtokjolmpdfmnbaaGreatDoor
namespace Go.Proofs.YtokjolmpdfmnbaaGreatDoor
open Go.RowKit Go.Sort
structure ShapeV (cs : Array Value) (R C : Nat) (es : List Int) : Prop where
  sz : cs.size = 11
  c0 : cs[0]? = some (.int .u8 R)
  c1 : cs[1]? = some (.int .u8 C)
  len : es.length = 9
  ent : ∀ j, j < 9 → cs[2 + j]? = some (.int .i8 (es.getD j 0))
  rng : ∀ j, j < 9 → -128 ≤ es.getD j 0 ∧ es.getD j 0 ≤ 127
  r8 : R < 256
  c8 : C < 256
def shE (es : List Int) (i k : Nat) : Int := (es.getD (3 * i + k) 0).tmod 10
def shRow (es : List Int) (n i : Nat) : List Int := (List.range n).map (shE es i)
def shM (es : List Int) (n i : Nat) : Mx := (List.range i).map (shRow es n)
def shTo (es : List Int) (n i k : Nat) : List Int := (List.range k).map (shE es i) ++ List.replicate (n - k) 0
theorem shTo_zero (es : List Int) (n i : Nat) : shTo es n i 0 = List.replicate n 0 := by simp [shTo]
theorem shTo_all (es : List Int) (n i : Nat) : shTo es n i n = shRow es n i := by simp [shTo, shRow]
theorem shTo_length (es : List Int) {n i k : Nat} (h : k ≤ n) : (shTo es n i k).length = n := by simp [shTo]; omega
theorem shTo_set (es : List Int) {n i k : Nat} (h : k < n) : (shTo es n i k).set k (shE es i k) = shTo es n i (k + 1) := by
  unfold shTo
  rw [List.set_append_right _ _ (by simp), List.range_succ, List.map_append, List.append_assoc]
  congr 1
  simp only [List.length_map, List.length_range, Nat.sub_self]
  rw [show n - k = (n - (k + 1)) + 1 by omega, List.replicate_succ, List.set_cons_zero]
  rfl
theorem shM_snoc (es : List Int) (n i : Nat) : shM es n i ++ [shRow es n i] = shM es n (i + 1) := by
  unfold shM; rw [List.range_succ, List.map_append]; rfl
@[simp] theorem shM_length (es : List Int) (n i : Nat) : (shM es n i).length = i := by simp [shM]
theorem shM_rect (es : List Int) (n i : Nat) : Rect n (shM es n i) := fun r hr => by
  obtain ⟨t, _, rfl⟩ := List.mem_map.1 hr
  simp [shRow]
theorem shE_b (es : List Int) (i k : Nat) : -9 ≤ shE es i k ∧ shE es i k ≤ 9 := by
  unfold shE
  generalize es.getD (3 * i + k) 0 = z
  have h1 := Int.tmod_lt_of_pos z (b := 10) (by omega)
  have h2 := Int.lt_tmod_of_pos z (b := 10) (by omega)
  omega
theorem shM_b (es : List Int) (n i : Nat) : ∀ r ∈ shM es n i, ∀ z ∈ r, -9 ≤ z ∧ z ≤ 9 := fun r hr z hz => by
  obtain ⟨t, _, rfl⟩ := List.mem_map.1 hr
  obtain ⟨k, _, rfl⟩ := List.mem_map.1 hz
  exact shE_b es t k
theorem sh_cell {w : World} {cs : Array Value} {T : TypeId} {j : Nat} {x : Value} (h : cs[j]? = some x) : (w.alloc (.cells cs T)).cell? ⟨w.heap.size, j, none⟩ = some x := by
  have e : (w.alloc (.cells cs T)).cell? ⟨w.heap.size, j, none⟩ = cs[j]? := by go_simp
  rw [e, h]
set_option maxRecDepth 100000 in
set_option maxHeartbeats 2000000 in
theorem Make08_any {w : World} {cs : Array Value} {R C : Nat} {es : List Int} (hG : ShapeV cs R C es) :
    Calls Tryz.prog 9 #[.agg cs] w fun e w' => ∃ v, e = .returned v ∧ MatO w.heap.size w' v (shM es (C % 4) (R % 4)) ∧ Ext w w' := by
  have h0 := sh_cell (w := w) (T := 25) hG.c0
  have h1 := sh_cell (w := w) (T := 25) hG.c1
  have Hent := Lib.hid (fun j hj => sh_cell (w := w) (T := 25) (hG.ent j hj))
  have Hrng := Lib.hid hG.rng
  have hR := hG.r8
  have hC := hG.c8
  have hEw := (Ext.refl w).alloc (.cells cs 25)
  have hsz : w.heap.size < (w.alloc (.cells cs 25)).heap.size := by simp
  obtain ⟨i0, hi, hz0, hz1, hz2⟩ := info_parts Tryz.infoInt
  obtain ⟨m, hm⟩ : ∃ m, m = R % 4 := ⟨_, rfl⟩
  obtain ⟨n, hn⟩ : ∃ n, n = C % 4 := ⟨_, rfl⟩
  have hmI : (R : Int) % 4 = (m : Int) := by omega
  have hnI : (C : Int) % 4 = (n : Int) := by omega
  have hm4 : m < 4 := by omega
  have hn4 : n < 4 := by omega
  rw [← hm, ← hn]
  clear hm hn hG
  go_enter Tryz.func9, Tryz.ntmps9
  go_wp2_with fail
  generalize (w.alloc (.cells cs 25)) = V at *
  go_loopw [3, 4] (fun out idx wr => ∃ i : Nat, i ≤ m ∧ idx = .int .i64 i ∧ Hid (MatO V.heap.size wr out (shM es n i)) ∧ Ext V wr) (fun _ idx _ => m - (intOf idx).toNat)
  case atStart => exact ⟨0, by omega, by go_num, Lib.hid (MatO.nil _ _), Ext.refl _⟩
  case round =>
    obtain ⟨i, hi', rfl, hO, hE⟩ := hrel
    generalize wr = X at *
    have h0X := hE.cell h0
    have h1X := hE.cell h1
    by_cases hlt : i < m
    · have hii : (i : Int) < (m : Int) := by omega
      go_wp2_with (at_make; refine wpList_make_full _ rfl _ _ 32 rfl X.heap.size 3 i0 (.int .i64 0) 1 Tryz.underlying32 hi hz0 hz1 .i64 .i64 _ _ n rfl rfl (by omega) (by omega) (by rw [hz2]; omega) (by unfold maxLen; omega) (Nat.le_refl _) ?_; intro w1 hown1 hgrow1)
      have hEm := ext_grown hgrow1
      obtain ⟨gx, hgx⟩ : ∃ gx, gx = X.heap.size := ⟨_, rfl⟩
      have hb0 : OwnV 3 X.heap.size w1 X.heap.size n (is (List.replicate n 0)) := row_ownV (zero_row hown1) (by simp)
      rw [← hgx] at hb0 ⊢
      have HO1 := Lib.hid hb0
      have hgle : X.heap.size ≤ gx := by omega
      have hVX := hE.size
      clear hown1 hgrow1 hb0 hgx
      go_wp2_with fail
      go_loopw [6] (fun kv wr => ∃ k : Nat, k ≤ n ∧ kv = .int .i64 k ∧ Hid (OwnV 3 gx wr gx n (is (shTo es n i k))) ∧ Ext X wr) (fun kv _ => n - (intOf kv).toNat)
      case atStart => exact ⟨0, by omega, by go_num, Lib.hid (by rw [shTo_zero]; exact HO1.out), hEm⟩
      case round =>
        obtain ⟨k, hk, rfl, hI, hEX⟩ := hrel
        generalize wr = Y at *
        by_cases hlt2 : k < n
        · have hki : (k : Int) < (n : Int) := by omega
          obtain ⟨z, hz⟩ : ∃ z, z = es.getD (3 * i + k) 0 := ⟨_, rfl⟩
          have cz := (hE.trans hEX).cell (Hent.out (3 * i + k) (by omega))
          rw [← hz] at cz
          have hzr := Hrng.out (3 * i + k) (by omega)
          rw [← hz] at hzr
          have hset := shTo_set es (i := i) hlt2
          have he : shE es i k = z.tmod 10 := by unfold shE; rw [hz]
          rw [he] at hset
          have Hset := Lib.hid hset
          have hi3 : (3 * (i : Int) + k) < 9 := by omega
          have hq : -9 ≤ z.tmod 10 ∧ z.tmod 10 ≤ 9 := by rw [← he]; exact shE_b es i k
          obtain ⟨u, hu⟩ := (show ∃ u, Y.cell? ⟨gx, k, none⟩ = some u from ⟨_, hI.out.cell (j := k) (by rw [is_length, shTo_length es (by omega)]; exact hlt2)⟩)
          have fz := hI.out.frozen k
          obtain ⟨hO6, hG6⟩ := hI.out.set k (.int .i64 (z.tmod 10))
          rw [← is_set, Hset.out] at hO6
          have HO6 := Lib.hid hO6
          have hE6 := Lib.hid (ext_trans_grown hEX hG6 hgle)
          clear hO6 hG6 hz hset he
          go_wp2_with fail
          go_roundw
          case rel => exact ⟨k + 1, by omega, by go_num, HO6, hE6.out⟩
          case measure => simp [intOf] <;> omega
        · have hke : k = n := by omega
          have hki : ¬ (k : Int) < (n : Int) := by omega
          have HR := Lib.hid (show RowV V.heap.size Y (.slice (some ⟨gx, 0, none⟩) n n) (shRow es n i) by
            have h2 := hI.out
            rw [hke, shTo_all] at h2
            have h3 := h2.mono (show V.heap.size ≤ gx by omega)
            unfold OwnV at h3
            unfold RowV
            simpa [shRow] using h3)
          have HOy := Lib.hid (hO.out.ext hEX)
          have hEY := hE.trans hEX
          have hVY := hEY.size
          have HM9 := Lib.hid (show (shM es n i).length ≤ 1000000000 by rw [shM_length]; omega)
          have hMk := shM_length es n i
          have Hsn := Lib.hid (shM_snoc es n i)
          clear hke hI HO1 hEX
          generalize shM es n i = Mi at *
          go_wp2_with (at_builtin; refine app_mat rfl _ _ rfl rfl (HOy.out.ext ((Ext.refl _).alloc _)) rfl (b := Y.heap.size) (by go_simp) (HR.out.ext ((Ext.refl _).alloc _)) HM9.out (by simp; omega) ?_; intro gg cap2 w8 hO8 hB8 hG8; rw [hMk] at hO8 ⊢)
          have hE8 : Ext V w8 := Below.trans (hEY.alloc (.cells #[.slice (some ⟨gx, 0, none⟩) n n] 32)) hB8
          rw [Hsn.out] at hO8
          have hO9 := Lib.hid hO8
          clear hG8 hB8 hO8
          go_wp2_with fail
          go_roundw
          case rel => exact ⟨i + 1, by omega, by go_num, hO9, hE8⟩
          case measure => simp [intOf] <;> omega
    · have hie : i = m := by omega
      have hii : ¬ (i : Int) < (m : Int) := by omega
      subst hie
      have Hres := Lib.hid (show MatO w.heap.size X _ (shM es n i) from hO.out.mono (by omega))
      go_wp2_with fail
      go_ret
      exact ⟨_, rfl, Hres.out, hEw.trans hE⟩
end Go.Proofs.YtokjolmpdfmnbaaGreatDoor
namespace Go.Proofs.YtokjolmpdfmnbaaGreatDoor
open Go.RowKit Go.Sort
theorem Columns08_any {w : World} {vm : Value} {M : Mx} (hM : MatR w vm M) :
    Calls Tryz.prog 17 #[vm] w fun e w' => e = .returned (.int .i64 (ncols M : Nat)) ∧ Ext w w' := by
  obtain ⟨sa, gb, go, cap, vs, rfl, hcap, hvl, hS, hr⟩ := id hM
  rcases Nat.eq_zero_or_pos M.length with h0 | h0
  · have hn : ncols M = 0 := by
      have : M = [] := List.length_eq_zero_iff.1 h0
      rw [this]; rfl
    rw [hn, h0]
    clear hS hr hvl hM
    go_enter Tryz.func17, Tryz.ntmps17
    go_wp2_with fail
    go_ret
    exact ⟨rfl, Ext.refl _⟩
  · obtain ⟨sr, br, or, cr, hrow, _, _⟩ := MatR.row hS hvl hr h0
    have hn : M[0].length = ncols M := by unfold ncols; rw [getD_get h0]
    rw [hn, Nat.add_zero] at hrow
    obtain rfl := hS.addr (by omega)
    have hl0 : ((M.length : Int) == 0) = false := beq_eq_false_iff_ne.2 (by omega)
    have hl1 : M.length ≠ 0 := by omega
    have hl2 : (0 : Int) < (M.length : Int) := by omega
    rename_i hk9 hk8
    clear hk9 hk8 hS hr hvl hM hn hcap h0
    generalize ncols M = c at *
    generalize M.length = N at *
    go_enter Tryz.func17, Tryz.ntmps17
    go_wp2_with fail
    go_ret
    exact ⟨rfl, Ext.refl _⟩
end Go.Proofs.YtokjolmpdfmnbaaGreatDoor
