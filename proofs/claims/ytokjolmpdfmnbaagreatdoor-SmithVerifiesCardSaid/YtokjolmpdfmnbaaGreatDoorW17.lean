/- Part 17 of the proof of the claim: contracts of the functions that it reaches, and plain laws; no condition. -/
import Derived.Test.YtokjolmpdfmnbaaGreatDoorW16
import Derived.Deep.RegionHeld3
import Derived.Deep.CutRange
import Derived.Test.YtokjolmpdfmnbaaGreatDoorW03
import Derived.Test.YtokjolmpdfmnbaaGreatDoorW12
import Derived.Test.YtokjolmpdfmnbaaGreatDoorW14
import Derived.Test.YtokjolmpdfmnbaaGreatDoorW13
import Derived.Test.YtokjolmpdfmnbaaGreatDoorW11
namespace Go.Proofs.YtokjolmpdfmnbaaGreatDoor
open Go.RowKit Go.Sort
def sizeE (M : Mx) (b : List Int) : Int := if checkM M = 0 then if chkRow b = 0 then if 0 < M.length ∧ b.length ≠ ncols M then 5 else 0 else chkRow b else checkM M
theorem sizeE_ok {M : Mx} {b : List Int} (h : sizeE M b = 0) : checkM M = 0 ∧ chkRow b = 0 ∧ (0 < M.length → b.length = ncols M) := by
  unfold sizeE at h
  split at h
  · split at h
    · split at h
      · cases h
      · rename_i h1 h2 h3
        exact ⟨h1, h2, fun h5 => Classical.byContradiction fun h6 => h3 ⟨h5, h6⟩⟩
    · exact absurd h ‹_›
  · exact absurd h ‹_›
set_option maxRecDepth 100000 in
theorem sized_any {w : World} {vm vb : Value} {M : Mx} {b : List Int} (hM : MatR w vm M) (hb : RowR w vb b) :
    Calls Tryz.prog 42 #[vm, vb] w fun e w' => e = .returned (.int .i64 (sizeE M b)) ∧ Ext w w' := by
  have hck := Lib.hid (tableCheck_any hM)
  have hrk := Lib.hid (fun W (hW : Ext w W) => rowCheck_any (hb.ext hW))
  obtain ⟨sr, br, or, cr, hbv, hbc, hSb⟩ := hb
  obtain ⟨sa, gb, go, cap, vs, hmv, hcap, hvl, hS, hr⟩ := hM
  by_cases h0 : checkM M = 0
  · rw [h0] at hck
    by_cases h1 : chkRow b = 0
    · rw [h1] at hrk
      by_cases hM0 : M.length = 0
      · have he : sizeE M b = 0 := by unfold sizeE; rw [if_pos h0, if_pos h1, if_neg (by omega)]
        rw [he]
        subst hmv hbv
        rw [hM0] at hck ⊢
        clear hS hvl hr hSb h0 h1 he hM0
        go_enter Tryz.func42, Tryz.ntmps42
        go_wp2_with fail
        refine hck.out.mono ?_
        rintro e w1 ⟨rfl, hE1⟩
        go_wp2_with fail
        refine (hrk.out _ hE1).mono ?_
        rintro e w2 ⟨rfl, hE2⟩
        go_wp2_with fail
        go_ret
        exact ⟨rfl, hE1.trans hE2⟩
      · have hMp : (0 : Int) < (M.length : Int) := by omega
        obtain ⟨s0, c0, rfl, hrow⟩ := ncols_row hS hvl hr (by omega)
        subst hmv hbv
        by_cases hl : b.length = ncols M
        · have he : sizeE M b = 0 := by unfold sizeE; rw [if_pos h0, if_pos h1, if_neg (by omega)]
          rw [he]
          rw [← hl] at hrow
          clear hS hvl hr hSb h0 h1 he hM0 hl
          go_enter Tryz.func42, Tryz.ntmps42
          go_wp2_with fail
          refine hck.out.mono ?_
          rintro e w1 ⟨rfl, hE1⟩
          go_wp2_with fail
          refine (hrk.out _ hE1).mono ?_
          rintro e w2 ⟨rfl, hE2⟩
          have hrow2 := (hE1.trans hE2).cell hrow
          go_wp2_with fail
          go_ret
          exact ⟨rfl, hE1.trans hE2⟩
        · have he : sizeE M b = 5 := by unfold sizeE; rw [if_pos h0, if_pos h1, if_pos ⟨by omega, hl⟩]
          have hlb : ((b.length : Int) == (ncols M : Int)) = false := beq_eq_false_iff_ne.2 (by omega)
          have hlb2 : ((b.length : Int) != (ncols M : Int)) = true := by simp [bne, hlb]
          have hlI : ¬ (b.length : Int) = (ncols M : Int) := by omega
          rw [he]
          clear hS hvl hr hSb h0 h1 he hM0
          go_enter Tryz.func42, Tryz.ntmps42
          go_wp2_with fail
          refine hck.out.mono ?_
          rintro e w1 ⟨rfl, hE1⟩
          go_wp2_with fail
          refine (hrk.out _ hE1).mono ?_
          rintro e w2 ⟨rfl, hE2⟩
          have hrow2 := (hE1.trans hE2).cell hrow
          go_wp2_with fail
          go_ret
          exact ⟨rfl, hE1.trans hE2⟩
    · obtain ⟨q, hq⟩ : ∃ q, q = chkRow b := ⟨_, rfl⟩
      have he : sizeE M b = q := by unfold sizeE; rw [if_pos h0, if_neg h1, hq]
      have hqb : (q == 0) = false := beq_eq_false_iff_ne.2 (by rw [hq]; exact h1)
      have hqb2 : (q != 0) = true := by simp [bne, hqb]
      rw [he]
      rw [← hq] at hrk
      subst hmv hbv
      clear hS hvl hr hSb h0 h1 he hq
      go_enter Tryz.func42, Tryz.ntmps42
      go_wp2_with fail
      refine hck.out.mono ?_
      rintro e w1 ⟨rfl, hE1⟩
      go_wp2_with fail
      refine (hrk.out _ hE1).mono ?_
      rintro e w2 ⟨rfl, hE2⟩
      go_wp2_with fail
      go_ret
      exact ⟨rfl, hE1.trans hE2⟩
  · obtain ⟨q, hq⟩ : ∃ q, q = checkM M := ⟨_, rfl⟩
    have he : sizeE M b = q := by unfold sizeE; rw [if_neg h0, hq]
    have hqb : (q == 0) = false := beq_eq_false_iff_ne.2 (by rw [hq]; exact h0)
    have hqb2 : (q != 0) = true := by simp [bne, hqb]
    rw [he]
    rw [← hq] at hck
    subst hmv hbv
    clear hS hvl hr hSb h0 he hq
    go_enter Tryz.func42, Tryz.ntmps42
    go_wp2_with fail
    refine hck.out.mono ?_
    rintro e w1 ⟨rfl, hE1⟩
    go_wp2_with fail
    go_ret
    exact ⟨rfl, hE1⟩
end Go.Proofs.YtokjolmpdfmnbaaGreatDoor
namespace Go.Proofs.YtokjolmpdfmnbaaGreatDoor
open Go.RowKit Go.Sort
theorem upr_step {c i : Nat} {H : Mx} (h : i < H.length) : upr c (H.take (i + 1)) = if pv H[i] < c then upr c (H.take i) ++ [H[i]] else upr c (H.take i) := by
  unfold upr
  rw [take_snocM h, List.filter_append]
  by_cases hp : pv H[i] < c
  · rw [if_pos hp, List.filter_cons_of_pos (by simp [hp])]; simp
  · rw [if_neg hp, List.filter_cons_of_neg (by simp [hp])]; simp
theorem upr_len (c : Nat) (H : Mx) : (upr c H).length ≤ H.length := List.length_filter_le _ _
theorem krn_len2 (c : Nat) (H : Mx) : (krn c H).length ≤ H.length := by unfold krn low; rw [List.length_map]; exact List.length_filter_le _ _
theorem pv_lt_take {l : List Int} {c : Nat} (hc : c ≤ l.length) : pv l < c ↔ ¬ zeroL (l.take c) := by
  constructor
  · intro h hz
    have := zero_vr.1 hz (pv l)
    rw [vr_take, if_pos h] at this
    exact pv_ne (by omega) this
  · intro h
    refine Classical.byContradiction fun hc2 => h (zero_vr.2 fun j => ?_)
    rw [vr_take]
    by_cases hj : j < c
    · rw [if_pos hj]; exact pv_zero (by omega)
    · rw [if_neg hj]
def SolPost (w : World) (M : Mx) (c : Nat) (b : List Int) (e : Ending) (w' : World) : Prop :=
  ∃ H, HnfOf (c + M.length) (wideM M) H ∧ Ext w w' ∧
    ((¬ zeroL ((solL c H M.length b).take c) ∧ e = .returned (.tuple #[.slice none 0 0, .bool false, .int .i64 0]))
      ∨ (zeroL ((solL c H M.length b).take c) ∧ smallB (solX c H M.length b) = true ∧ ∃ v, e = .returned (.tuple #[v, .bool true, .int .i64 0]) ∧ RowV w.heap.size w' v (solX c H M.length b))
      ∨ (zeroL ((solL c H M.length b).take c) ∧ smallB (solX c H M.length b) = false ∧ e = .returned (.tuple #[.slice none 0 0, .bool false, .int .i64 4])))
theorem box_a {X W : World} {T : TypeId} {o : Obj} {v : Value} (h : Ext (((X.alloc (.cells #[v] T)).alloc o).drew) W) : W.cell? ⟨X.heap.size, 0, none⟩ = some v ∧ X.heap.size < W.heap.size :=
  ⟨h.cell (by go_simp), by have := h.size; simp at this; omega⟩
theorem box_b {X W : World} {T : TypeId} {o : Obj} {v : Value} (h : Ext (((X.alloc o).alloc (.cells #[v] T)).drew) W) : W.cell? ⟨X.heap.size + 1, 0, none⟩ = some v ∧ X.heap.size + 1 < W.heap.size :=
  ⟨h.cell (by go_simp), by have := h.size; simp at this; omega⟩
set_option maxRecDepth 100000 in
set_option maxHeartbeats 2000000 in
theorem Solve_any {w : World} {vm vb : Value} {M : Mx} {b : List Int} {c E : Nat} (hM : MatR w vm M) (hb : RowR w vb b) (hs0 : sizeE M b = 0) (h0 : 0 < M.length) (hc : c = ncols M) (hEe : E = bC M.length 30 (c + M.length))
    (hE : 2 * ((E + (E + 1) * M.length) + ((E + (E + 1) * M.length) + 1) * M.length) + 6 < LIM) (hL : Laid w) :
    Calls Tryz.prog 40 #[vm, vb] w (SolPost w M c b) := by
  obtain ⟨hck, hrk, hbl⟩ := sizeE_ok hs0
  obtain ⟨hl12, hn12, hRt, hent⟩ := checkM_ok hck
  obtain ⟨hb64, hbent⟩ := chkRow_ok hrk
  have hbc : b.length = c := by rw [hc]; exact hbl h0
  rw [← hc] at hn12 hRt
  have hsz := Lib.hid (sized_any hM hb)
  rw [hs0] at hsz
  obtain ⟨N, hN⟩ : ∃ N, N = M.length := ⟨_, rfl⟩
  have hwd := Lib.hid (fun W (hW : Ext w W) => wide_any (hM.ext hW) hRt h0 (by omega) (by omega) hent (by rw [← hEe]; have : (E + 1) * M.length ≥ (E + 1) * 1 := Nat.mul_le_mul_left _ h0; omega) (hL.ext hW))
  have hbig := Lib.hid (fun W (bx : Nat) (sb : Option Addr) (bb ob cb : Nat) (hW : Ext w W) (hS : Sl w sb bb ob (is b)) (hcb : b.length ≤ cb) (hbx : W.cell? ⟨bx, 0, none⟩ = some (.slice sb b.length cb)) =>
    sbig_any (w := W) (v := .slice (some ⟨bx, 0, none⟩) 1 1) (M := [b]) ⟨_, bx, 0, 1, [.slice sb b.length cb], rfl, Nat.le_refl _, rfl, ⟨fun _ => rfl, fun i x hx => by
      have : i = 0 := by have := (List.getElem?_eq_some_iff.1 hx).1; simp at this; omega
      subst this
      simp only [List.getElem?_cons_zero, Option.some.injEq] at hx
      rw [← hx]; exact hbx⟩, fun i a bb' => by
      have : i = 0 := by simp at a; omega
      subst this
      exact ⟨sb, bb, ob, cb, rfl, hcb, hS.ext hW⟩⟩ (by simp) (fun r hr => by simp at hr; subst hr; omega) (fun r hr z hz => by simp at hr; subst hr; have := hbent z hz; unfold I64; omega) (hL.ext hW))
  obtain ⟨sb, bb, ob, cb, rfl, hcb, hSb⟩ := hb
  obtain ⟨sa, gb, go, cap, vs, rfl, hcap, hvl, hS, hr⟩ := hM
  obtain rfl := hS.addr (by omega)
  have hrep := Lib.hid (fun W (bx : Nat) (hW : W.cell? ⟨bx, 0, none⟩ = some (I 0)) => repeat_any (m := N) (by omega) (b := bx) (o := 0) (c := 1) (z := 0) (w := W) hW)
  obtain ⟨s0, hs, hy0, hy1, hy2⟩ := info_parts Tryz.infoStr
  have HSb := Lib.hid hSb
  have HRt := Lib.hid hRt
  have Hent := Lib.hid hent
  have Hbent := Lib.hid hbent
  have HE := Lib.hid hE
  have HEe := Lib.hid hEe
  have HL := Lib.hid hL
  have HN := Lib.hid hN
  have Hbc := Lib.hid hbc
  have hN2 : 0 < N := by omega
  have hN12 : N ≤ 12 := by omega
  have hN0 : (N == 0) = false := beq_eq_false_iff_ne.2 (by omega)
  have hN1 : ((N : Int) == 0) = false := beq_eq_false_iff_ne.2 (by omega)
  have hz1 : I 0 = .string ⟨#[48]⟩ := by unfold I S; rw [itoa_zero]
  have Hz1 := Lib.hid hz1
  rw [← hN] at hsz hwd h0 hcap hl12 ⊢
  rw [hbc] at hsz hcb hbig ⊢
  clear hs0 hck hrk hbl hRt hent hbent hSb hE hEe hL hN hbc hS hvl hr hc hz1
  go_enter Tryz.func40, Tryz.ntmps40
  go_wp2_with fail
  refine hsz.out.mono ?_
  rintro e w1 ⟨rfl, hE1⟩
  go_wp2_with fail
  refine (hwd.out _ hE1).mono ?_
  rintro e w2 ⟨g, cp, H, rfl, hH, hHl, hG, hHb, hE2⟩
  rw [← HN.out] at hHl
  have hE12 := hE1.trans hE2
  have HH := Lib.hid hH
  have HG := Lib.hid hG
  have HHb := Lib.hid hHb
  clear hsz hwd hH hG hHb
  go_upto_region 7 with fail
  go_cut [10] from 32 to 42 (fun lv wx => ∃ gl cl, lv = slv gl (c + N) cl ∧ Hid (OwnV 94 w2.heap.size wx gl cl (ss (b ++ List.replicate N 0))) ∧ Ext w2 wx)
  case first =>
    have d7 : Ext w2 w2.drew := (Ext.refl w2).drew
    have hcbI : (c : Int) ≤ (cb : Int) := by omega
    have hNews : ∀ W gr cr, OwnV 94 0 W gr cr (ss (List.replicate N 0)) → ∀ (j : Nat) (u : Value), (ss (List.replicate N 0))[j]? = some u → W.cell? ((⟨gr, 0, none⟩ : Addr).add j) = some u := fun W gr cr hO j u hj => by
      have h2 := hO.sl.cell j u hj
      simpa [Addr.add_lit] using h2
    have HNews := Lib.hid hNews
    have HOne := Lib.hid (show ∀ u ∈ ss (List.replicate N 0), u.oneCell' = true from fun u hu => by
      obtain ⟨y, _, rfl⟩ := List.mem_map.1 hu
      rfl)
    have Hzl := Lib.hid (show (ss (List.replicate N 0)).length = N * 1 by rw [ss_length]; simp)
    clear hNews
    go_region_law (first
      | (go_simp; go_at_call 44; refine (hbig.out _ _ sb bb ob cb (hE12.trans (by first | exact ((Ext.refl w2).alloc _).drew | exact (((Ext.refl w2).alloc _).alloc _).drew)) HSb.out hcb (by go_simp)).mono ?_; rintro e W7 ⟨v1, ad1, rfl, hG7, hE7⟩; obtain ⟨ga1, cap1, rfl, hcap1, hs1⟩ := hG7.shape; obtain ⟨g1, rfl⟩ := hs1 (by simp); have HG7 := Lib.hid hG7; obtain ⟨gx, cx, _, hx1, hx2, _⟩ := hG7.hd (i := 0) (by simp); have HI7 := Lib.hid (show IntsV w2.heap.size W7 (xv b.length gx cx) b from IntsV.mono hx2 (by simp <;> omega)); obtain ⟨xa, xl, xk, hxv⟩ := xv_slice b.length gx cx; have Hxv := Lib.hid hxv; simp only [List.getD_cons_zero] at hx1; rw [hxv] at hx1; have hx1s : g1 < W7.heap.size := World.block_lt_of_cell? _ _ hx1; have h67 := Ext.trans (show Ext w2 _ by first | exact ((Ext.refl w2).alloc _).drew | exact (((Ext.refl w2).alloc _).alloc _).drew) hE7; clear hG7 hx2 hxv; (first | (have zz := box_a (v := .string ⟨#[48]⟩) hE7; obtain ⟨z7, z8⟩ := zz) | (have zz := box_b (v := .string ⟨#[48]⟩) hE7; obtain ⟨z7, z8⟩ := zz) | skip))
      | (go_simp; go_at_call 86; refine (hrep.out _ _ (by rw [Hz1.out]; first | exact z7 | go_simp)).mono ?_; rintro e W8 ⟨gr, cr, rfl, hO8, hE8⟩; have hx8 := hE8.cell (by first | exact hx1 | exact ((Ext.refl W7).alloc _).cell hx1); have h78 := Ext.trans (show Ext W7 _ by first | exact Ext.refl _ | exact (Ext.refl _).alloc _) hE8; have HN8 := Lib.hid (HNews.out _ _ _ (hO8.mono (Nat.zero_le _))); have HI8 := Lib.hid (show IntsV w2.heap.size W8 (xv b.length gx cx) b from HI7.out.ext h78); have h68 := Ext.trans h67 h78; have hs68 := h68.size; clear hO8)
      | (refine step_append_lies _ (by rfl) _ _ _ (by rfl) w2.heap.size 94 s0 _ 1 16 Tryz.underlying99 hs hy0 hy1 hy2 rfl (by omega) (xv b.length gx cx) b.length (ss b) (by rw [Hxv.out]; rfl) HI8.out ⟨gr, 0, none⟩ N cr (ss (List.replicate N 0)) (by rfl) Hzl.out HN8.out HOne.out hN2 (by have := Hbc.out; unfold maxLen; omega) (by have := Hbc.out; omega) hs68 W8.heap.size (by simp) ?_; intro gg cap9 w9 hown9 hgrow9 hat9 hlt9; have h9 : Ext w2 w9 := Ext.mk' (Below.grown h68 hgrow9 hs68 (fun q hq => (World.ownsRow.lt HI8.out q hq).1)); have H9 := Lib.hid (show OwnV 94 w2.heap.size w9 gg cap9 (ss (b ++ List.replicate N 0)) by unfold OwnV; rw [ss_append, List.length_append, Hzl.out, ss_length, Nat.mul_one]; exact hown9); clear hown9 hgrow9 hat9))
    all_goals (try go_wp2_with fail)
    all_goals go_meet
    all_goals exact ⟨gg, cap9, by rw [← Hbc.out], H9, h9⟩
  case rest =>
    obtain ⟨gl, cl, rfl, hO, hE3⟩ := hcut
    generalize wc = X at *
    have hE13 := hE12.trans hE3
    obtain ⟨ps, hI⟩ := HH.out.1
    have hup := upr_rows (c := c) hI
    rw [← HN.out] at hup
    have HRtH := Lib.hid (show Rect (c + N) H by have := hI.rect; rw [← HN.out] at this; exact this)
    have Hup := Lib.hid hup
    have HE0 := Lib.hid (show 30 ≤ E by rw [HEe.out]; have := bC_mono M.length 30 0 (c + M.length); rw [Nat.zero_add] at this; simpa [bC] using this)
    have HHb2 := Lib.hid (show ∀ r ∈ H, ∀ z ∈ r, z.natAbs < 2 ^ E by rw [HEe.out]; exact HHb.out)
    have hEn := HE.out
    rw [← HN.out] at hEn
    have HEN := Lib.hid hEn
    clear hI hup hEn
    obtain ⟨sg, bg, og, cg, vg, hgv, hgc, hgl, hgS, hgr⟩ := HG.out
    injection hgv with q1 _ q3
    subst q3
    have HgS := Lib.hid hgS
    have Hgl := Lib.hid hgl
    have Hgr := Lib.hid hgr
    have Hq1 := Lib.hid q1
    have hHc : (H.length : Int) ≤ (cp : Int) := by omega
    clear hgS hgl hgr q1
    go_wp2_with fail
    go_loopw [11, 44] (fun out idx wr => ∃ i : Nat, i ≤ H.length ∧ idx = .int .i64 i ∧ Hid (RdO X.heap.size X wr out (upr c (H.take i))) ∧ Ext X wr) (fun _ idx _ => H.length - (intOf idx).toNat)
    case atStart => exact ⟨0, by omega, by go_num, Lib.hid (RdO.nil _ _ _), Ext.refl _⟩
    case round =>
      obtain ⟨i, hi', rfl, hV, hE4⟩ := hrel
      generalize wr = Y at *
      by_cases hlt : i < H.length
      · have hii : (i : Int) < (H.length : Int) := by omega
        have hq := HgS.out.addr (by rw [Hgl.out]; omega)
        rw [← Hq1.out] at hq
        injection hq with hq
        injection hq with hq1 hq2
        obtain ⟨sr, br, or, cr, hrow, hrc, hSr⟩ := GridR.row HgS.out Hgl.out Hgr.out hlt
        rw [← hq1, ← hq2, Nat.zero_add] at hrow
        have hrl : H[i].length = c + N := HRtH.out _ (List.getElem_mem hlt)
        have hstep := upr_step (c := c) hlt
        obtain ⟨r, hr⟩ : ∃ r, r = H[i] := ⟨_, rfl⟩
        rw [← hr] at hrow hrc hSr hrl hstep
        rw [hrl] at hrow hrc
        have hrow' := (hE3.trans hE4).cell hrow
        obtain rfl := hSr.addr (by rw [ss_length]; omega)
        have Hrd := Lib.hid (show IntsR X (.slice (some ⟨br, or, none⟩) (c + N) cr) r from ⟨_, br, or, cr, by rw [hrl], by rw [hrl]; exact hrc, hSr.ext hE3⟩)
        have hld := Lib.hid (slead_any (w := Y) (cap := cr) (hSr.ext (hE3.trans hE4)) (by omega))
        rw [hrl] at hld
        have Hul := Lib.hid (show (upr c (H.take i)).length ≤ 1000000000 by have := upr_len c (H.take i); rw [List.length_take] at this; omega)
        clear hq1 hq2 hr hrow hrc hSr hrl
        obtain ⟨p, hp⟩ : ∃ p, p = pv r := ⟨_, rfl⟩
        rw [← hp] at hstep hld
        by_cases hpc : p < c
        · have hpi : (p : Int) < (c : Int) := by omega
          rw [if_pos hpc] at hstep
          have Hstep := Lib.hid hstep
          have hXY := hE4.size
          clear hstep hp hpc
          go_wp2_with fail
          refine hld.out.mono ?_
          rintro e W ⟨rfl, hW⟩
          have hWX := hW.size
          go_wp2_with (at_builtin; refine app_rd rfl _ _ rfl (B := X.heap.size) (w0 := X) rfl ((hV.out.ext hW).ext ((Ext.refl _).alloc _)) rfl (b := W.heap.size) (rv := .slice (some ⟨br, or, none⟩) (c + N) cr) (r := r) (by go_simp) Hrd.out Hul.out (by simp; omega) ?_; intro gg cap2 w8 hO8 hB8 hG8; rw [← Hstep.out] at hO8)
          have hE8 : Ext X w8 := Below.trans ((hE4.trans hW).alloc _) hB8
          have HO8 := Lib.hid hO8
          clear hG8 hB8 hO8
          go_wp2_with fail
          go_roundw
          case rel => exact ⟨i + 1, by omega, by go_num, Lib.hid (by
            have h1 := HO8.out
            rw [Hstep.out] at h1 ⊢
            simpa using h1), hE8⟩
          case measure => simp [intOf] <;> omega
        · have hpi : ¬ (p : Int) < (c : Int) := by omega
          rw [if_neg hpc] at hstep
          have Hstep := Lib.hid hstep
          clear hstep hp hpc
          go_wp2_with fail
          refine hld.out.mono ?_
          rintro e W ⟨rfl, hW⟩
          go_wp2_with fail
          go_roundw
          case rel => exact ⟨i + 1, by omega, by go_num, Lib.hid (by rw [Hstep.out]; exact hV.out.ext hW), hE4.trans hW⟩
          case measure => simp [intOf] <;> omega
      · have hie : i = H.length := by omega
        have hV2 := hV.out
        rw [hie, List.take_length] at hV2
        have hgrd := hV2.grid hE4
        have hii : ¬ (i : Int) < (H.length : Int) := by omega
        have hxl : (b ++ List.replicate N 0).length = c + N := by rw [List.length_append, Hbc.out, List.length_replicate]
        have hbx : ∀ z ∈ b ++ List.replicate N 0, z.natAbs < 2 ^ E := fun z hz => by
          have e : (2 : Nat) ^ 30 = 1073741824 := by decide
          have h3 : 2 ^ 30 ≤ 2 ^ E := Nat.pow_le_pow_right (by omega) HE0.out
          rcases List.mem_append.1 hz with hz | hz
          · have := Hbent.out z hz; omega
          · have := (List.mem_replicate.1 hz).2; omega
        have hul := upr_len c H
        have hmul : (E + 1) * (upr c H).length ≤ (E + 1) * N := Nat.mul_le_mul_left _ (by omega)
        have hred := Lib.hid (reduced_any (w := Y) hgrd Hup.out.1 ((hO.out.ext hE4).intsR hxl) hxl (by omega) (by omega) (by omega) (fun r hr => (Hup.out.2 r hr).2) (fun r hr => HHb2.out r (List.mem_filter.1 hr).1) hbx (by have := HEN.out; omega) (HL.out.ext (hE13.trans hE4)))
        have hl1b := Lib.hid (show ∀ z ∈ solL c H N b, z.natAbs < 2 ^ (E + (E + 1) * N) from fun z hz => by
          have h3 := redX_bits (F := upr c H) (x := b ++ List.replicate N 0) (E := E) (fun r hr => by rw [Hup.out.1 r hr]; exact (Hup.out.2 r hr).2) (fun r hr => HHb2.out r (List.mem_filter.1 hr).1) hbx (upr c H).length (Nat.le_refl _) z (by rw [List.take_length]; exact hz)
          exact Nat.lt_of_lt_of_le h3 (Nat.pow_le_pow_right (by omega) (by omega)))
        have hEY := hE13.trans hE4
        rw [show redX (upr c H) (b ++ List.replicate N 0) = solL c H N b from rfl] at hred
        clear hie hV hV2 hgrd hxl hbx hul hmul hlt hO
        go_wp2_with fail
        refine hred.out.mono ?_
        rintro e w4 ⟨gx, cx, rfl, hX4, hE5⟩
        obtain ⟨l1, hl1⟩ : ∃ l1, l1 = solL c H N b := ⟨_, rfl⟩
        rw [← hl1] at hX4 hl1b
        have hl1l : l1.length = c + N := by rw [hl1, solL_length, Hbc.out]
        have hgl := hX4.lt
        have hcx := hX4.cap
        rw [ss_length, hl1l] at hcx
        have HX4 := Lib.hid hX4
        have Hl1 := Lib.hid hl1
        have Hl1l := Lib.hid hl1l
        have hld := Lib.hid (slead_any (w := w4) (cap := cx) hX4.sl (by omega : l1.length ≤ 1000000))
        rw [hl1l] at hld
        have hdec := pv_lt_take (l := l1) (c := c) (by omega)
        have Hdec := Lib.hid hdec
        obtain ⟨p, hp⟩ : ∃ p, p = pv l1 := ⟨_, rfl⟩
        rw [← hp] at hld Hdec
        have hE6 := hEY.trans hE5
        clear hX4 hl1 hl1l hdec hp hred
        by_cases hpc : p < c
        · have hpi : (p : Int) < (c : Int) := by omega
          have hnz := Hdec.out.1 hpc
          have Hres := Lib.hid (fun W (hW : Ext w4 W) => show SolPost w M c b (.returned (.tuple #[.slice none 0 0, .bool false, .int .i64 0])) W from ⟨H, HH.out, hE6.trans hW, .inl ⟨by rw [← HN.out, ← Hl1.out]; exact hnz, rfl⟩⟩)
          clear hpc hnz
          go_wp2_with fail
          refine hld.out.mono ?_
          rintro e w5 ⟨rfl, hE7⟩
          go_wp2_with fail
          go_ret3
          exact Hres.out _ hE7
        · have hpi : ¬ (p : Int) < (c : Int) := by omega
          have HZ := Lib.hid (show zeroL (l1.take c) from Classical.byContradiction fun h => hpc (Hdec.out.2 h))
          have hE1' : 2 * (E + (E + 1) * N) + 2 < LIM := by have := HEN.out; omega
          have htn := Lib.hid (fun W (hW : Ext w4 W) => sturn_part (B := Y.heap.size) (w := W) (o := c) (n := N) (cp := cx - c) (HX4.out.ext hW) (by rw [Hl1l.out]) (by omega) (fun z hz => by have := nd_lt2 (hl1b.out z hz); omega))
          have hcI : (c : Int) ≤ ((c + N : Nat) : Int) := by omega
          have hcI2 : (c : Int) ≤ (cx : Int) := by omega
          have hcast : ((c + N : Nat) : Int) = (c : Int) + (N : Int) := by omega
          have hcne : ¬ cx = c := by omega
          have hcne2 : ¬ cx - c = 0 := by omega
          clear hpc
          go_wp2_with fail
          refine hld.out.mono ?_
          rintro e w5 ⟨rfl, hE7⟩
          have hE57 := hE6.trans hE7
          go_wp2_with fail
          refine (htn.out _ hE7).mono ?_
          rintro e w6 ⟨rfl, hX6, hG6⟩
          have hE8 : Ext X w6 := ext_trans_grown (((hE4.trans hE5).trans hE7)) hG6 (by have := hE4.size; omega)
          have hE38 := hE3.trans hE8
          have hE18 := hE13.trans hE8
          have hx0l : (negM (l1.drop c)).length = N := by rw [negM_length, List.length_drop, Hl1l.out]; omega
          have hxx : l1.take c ++ (l1.drop c).map (fun z => -z) = l1.take c ++ negM (l1.drop c) := rfl
          have htl : (l1.take c).length = c := by rw [List.length_take, Hl1l.out]; omega
          rw [hxx] at hX6
          have hxr : IntsR w6 (.slice (some ⟨gx, c, none⟩) N (cx - c)) (negM (l1.drop c)) := by
            refine ⟨_, gx, c, cx - c, by rw [hx0l], by rw [hx0l]; omega, ?_⟩
            have := hX6.sl.drop (c := c) (ga' := some ⟨gx, 0 + c, none⟩) rfl
            rw [ss_drop, List.drop_left' htl, Nat.zero_add] at this
            exact this
          have Hxr := Lib.hid hxr
          have Hx0l := Lib.hid hx0l
          have hx0b : ∀ z ∈ negM (l1.drop c), z.natAbs < 2 ^ (E + (E + 1) * N) := fun z hz => by
            obtain ⟨y, hy, rfl⟩ := List.mem_map.1 hz
            rw [Int.natAbs_neg]; exact hl1b.out y (List.mem_of_mem_drop hy)
          have Hx0b := Lib.hid hx0b
          obtain ⟨qs, hK, _⟩ := krn_form HRt.out HH.out
          have HK := Lib.hid hK
          have hkl := krn_len2 c H
          have Hkb := Lib.hid (show ∀ r ∈ krn c H, ∀ z ∈ r, z.natAbs < 2 ^ (E + (E + 1) * N) from fun r hr z hz => by
            obtain ⟨s, hs, rfl⟩ := List.mem_map.1 hr
            have := HHb2.out s (List.mem_filter.1 hs).1 z (List.mem_of_mem_drop hz)
            exact Nat.lt_of_lt_of_le this (Nat.pow_le_pow_right (by omega) (by omega)))
          have hkr := Lib.hid (kernel_any (w := w6) (c := c) (m := N) (HG.out.ext hE38) HRtH.out hN2 (by omega) (by omega))
          have hmul : (E + (E + 1) * N + 1) * (krn c H).length ≤ (E + (E + 1) * N + 1) * N := Nat.mul_le_mul_left _ (by omega)
          have hrd2 := Lib.hid (fun W vF (hW : Ext w6 W) (hF : GridR W vF (krn c H)) => reduced_any (w := W) (m := N) hF (by have := HK.out.rect; rw [← HN.out] at this; exact this) (Hxr.out.ext hW) Hx0l.out hN2 (by omega) (by omega) (fun r hr => by
            obtain ⟨i, hi, rfl⟩ := List.getElem_of_mem hr
            have := HK.out.lt i hi
            rw [HK.out.pvs hi, getD_get hi, ← HN.out] at this
            exact this) Hkb.out Hx0b.out (by have := HEN.out; omega) (HL.out.ext (hE18.trans hW)))
          have hsolx : redX (krn c H) (negM (l1.drop c)) = solX c H N b := by rw [Hl1.out]; rfl
          rw [hsolx] at hrd2
          have Hsb := Lib.hid (show ∀ z ∈ solX c H N b, nd z ≤ LIM from fun z hz => by
            have h3 := redX_bits (F := krn c H) (x := negM (l1.drop c)) (E := E + (E + 1) * N) (fun r hr => by
              obtain ⟨i, hi, rfl⟩ := List.getElem_of_mem hr
              have h4 := HK.out.lt i hi
              rw [HK.out.pvs hi, getD_get hi, ← HN.out] at h4
              have h5 : (krn c H)[i].length = N := by have := HK.out.rect _ (List.getElem_mem hi); rw [← HN.out] at this; exact this
              omega) Hkb.out Hx0b.out (krn c H).length (Nat.le_refl _) z (by rw [List.take_length, hsolx]; exact hz)
            have := nd_lt2 h3
            have := HEN.out
            omega)
          have hsxl : (solX c H N b).length = N := solX_length Hbc.out
          have Hsxl := Lib.hid hsxl
          have hsml := Lib.hid (fun W bx gz cz (hW : Ext w6 W) (hZ : OwnV 94 0 W gz cz (ss (solX c H N b))) (hbx : W.cell? ⟨bx, 0, none⟩ = some (slv gz N cz)) =>
            ssmall_any (w := W) (v := .slice (some ⟨bx, 0, none⟩) 1 1) (M := [solX c H N b]) ⟨_, bx, 0, 1, [slv gz N cz], rfl, Nat.le_refl _, rfl, ⟨fun _ => rfl, fun i x hx => by
              have : i = 0 := by have := (List.getElem?_eq_some_iff.1 hx).1; simp at this; omega
              subst this
              simp only [List.getElem?_cons_zero, Option.some.injEq] at hx
              rw [← hx]; exact hbx⟩, fun i a bb' => by
              have : i = 0 := by simp at a; omega
              subst this
              exact hZ.intsR Hsxl.out⟩ (by simp) (fun r hr => by simp at hr; subst hr; rw [Hsxl.out]; omega) (fun r hr z hz => by simp at hr; subst hr; exact Hsb.out z hz) (HL.out.ext (hE18.trans hW)))
          have HZ2 := Lib.hid (show zeroL ((solL c H M.length b).take c) by rw [← HN.out, ← Hl1.out]; exact HZ.out)
          clear hX6 hxr hx0l hx0b hK hkl hmul hsolx hsxl hxx htl htn hld
          go_wp2_with fail
          refine hkr.out.mono ?_
          rintro e w7 ⟨vK, rfl, hgK, hE9⟩
          obtain ⟨ka, kb, ko, kc, kv, hkv, hk2⟩ := id hgK
          have HgK := Lib.hid hgK
          clear hgK hk2
          subst hkv
          go_wp2_with fail
          refine (hrd2.out _ _ hE9 HgK.out).mono ?_
          rintro e w8 ⟨gz, cz, rfl, hZ8, hE10⟩
          have HZ8 := Lib.hid (hZ8.mono (Nat.zero_le _))
          clear hZ8
          have hE610 := hE9.trans hE10
          go_wp2_with fail
          refine (hsml.out _ w8.heap.size gz cz (hE610.alloc _) (HZ8.out.ext ((Ext.refl _).alloc _)) (by go_simp)).mono ?_
          rintro e w9 ⟨hp9, hE11⟩
          have hfin := hE18.trans ((hE610.alloc _).trans hE11)
          cases hs : smallB (solX c H N b)
          · have hsm : smallM [solX c H N b] = false := by simp [smallM, hs]
            rw [if_neg (by rw [hsm]; decide)] at hp9
            subst hp9
            have Hres := Lib.hid (show SolPost w M c b (.returned (.tuple #[.slice none 0 0, .bool false, .int .i64 4])) w9 from ⟨H, HH.out, hfin, .inr (.inr ⟨HZ2.out, by rw [← HN.out]; exact hs, rfl⟩)⟩)
            clear hs hsm
            go_wp2_with fail
            go_ret3
            exact Hres.out
          · have hsm : smallM [solX c H N b] = true := by simp [smallM, hs]
            rw [if_pos hsm] at hp9
            obtain ⟨vr, rfl, hvr⟩ := hp9
            obtain ⟨vs9, hv1, hv2, hv3⟩ := hvr
            have h90 := hv3 0 (by simp) (by rw [hv1]; simp)
            rcases hv2.2 with ⟨_, h0'⟩ | ⟨g9, c9, cur9, rfl, _, _, hc9, _⟩
            · simp at h0'
            · have hc9' := World.ownsRow.cellAt hv2 0 (by simp)
              rw [List.getElem?_eq_getElem (by rw [hv1]; simp)] at hc9'
              simp only [List.length_singleton] at hc9 hc9'
              obtain ⟨rv, hrv⟩ : ∃ rv, rv = vs9[0]'(by rw [hv1]; simp) := ⟨_, rfl⟩
              rw [← hrv] at hc9' h90
              have hc10 : w9.cell? ⟨g9, 0, none⟩ = some rv := by simpa using hc9'
              have hsz8 := (hE18.trans (hE610.alloc (.cells #[slv gz N cz] 99))).size
              have Hres := Lib.hid (show SolPost w M c b (.returned (.tuple #[rv, .bool true, .int .i64 0])) w9 from ⟨H, HH.out, hfin, .inr (.inl ⟨HZ2.out, by rw [← HN.out]; exact hs, rv, rfl, by rw [← HN.out]; exact RowV.mono h90 hsz8⟩)⟩)
              clear hs hsm h90 hv1 hv2 hv3 hrv hc9'
              go_wp2_with fail
              go_ret3
              exact Hres.out
end Go.Proofs.YtokjolmpdfmnbaaGreatDoor
namespace Go.Proofs.YtokjolmpdfmnbaaGreatDoor
open Go.RowKit Go.Sort
def cbTo (M : Mx) (l : List Int) (c k j : Nat) : List Int := (List.range c).map fun i => sumZ (fun t => vr l t * eM M t i) k + if i < j then vr l k * eM M k i else 0
theorem cbTo_length (M : Mx) (l : List Int) (c k j : Nat) : (cbTo M l c k j).length = c := by simp [cbTo]
theorem cbTo_get (M : Mx) (l : List Int) {c k j i : Nat} (h : i < c) : (cbTo M l c k j)[i]'(by rw [cbTo_length]; exact h) = sumZ (fun t => vr l t * eM M t i) k + if i < j then vr l k * eM M k i else 0 := by simp [cbTo]
theorem cbTo_zero (M : Mx) (l : List Int) (c : Nat) : cbTo M l c 0 0 = List.replicate c 0 := by
  refine List.ext_getElem (by simp [cbTo]) fun i h1 h2 => ?_
  rw [cbTo_get M l (by simpa [cbTo] using h1)]
  simp [sumZ]
theorem cbTo_next (M : Mx) (l : List Int) (c k : Nat) : cbTo M l c k c = cbTo M l c (k + 1) 0 := by
  refine List.ext_getElem (by simp [cbTo]) fun i h1 h2 => ?_
  have hi : i < c := by simpa [cbTo] using h1
  rw [cbTo_get M l hi, cbTo_get M l hi, if_pos hi, if_neg (by omega)]
  show sumZ (fun t => vr l t * eM M t i) k + vr l k * eM M k i = (sumZ (fun t => vr l t * eM M t i) k + vr l k * eM M k i) + 0
  rw [Int.add_zero]
theorem cbTo_step (M : Mx) (l : List Int) {c k j : Nat} : (cbTo M l c k j).set j (sumZ (fun t => vr l t * eM M t j) k + vr l k * eM M k j) = cbTo M l c k (j + 1) := by
  refine List.ext_getElem (by simp [cbTo]) fun i h1 h2 => ?_
  have hi : i < c := by simpa [cbTo] using h2
  rw [List.getElem_set]
  by_cases e : j = i
  · subst e; rw [if_pos rfl, cbTo_get M l hi, if_pos (by omega)]
  · rw [if_neg e, cbTo_get M l hi, cbTo_get M l hi]
    by_cases h3 : i < j
    · rw [if_pos h3, if_pos (by omega)]
    · rw [if_neg h3, if_neg (by omega)]
theorem sumZ_bd {f : Nat → Int} {B : Int} (h : ∀ t, -B ≤ f t ∧ f t ≤ B) (k : Nat) : -((k : Int) * B) ≤ sumZ f k ∧ sumZ f k ≤ (k : Int) * B := by
  induction k with
  | zero => simp [sumZ]
  | succ k ih =>
    obtain ⟨h1, h2⟩ := ih
    obtain ⟨h3, h4⟩ := h k
    have e : ((k + 1 : Nat) : Int) * B = (k : Int) * B + B := by rw [Int.natCast_add, Int.add_mul]; simp
    rw [e]
    have e2 : sumZ f (k + 1) = sumZ f k + f k := rfl
    rw [e2]
    constructor <;> omega
structure CbOk (M : Mx) (l : List Int) (c : Nat) : Prop where
  n3 : M.length ≤ 3
  len : l.length = M.length
  rect : Rect c M
  c3 : c ≤ 3
  ent : ∀ r ∈ M, ∀ z ∈ r, -9 ≤ z ∧ z ≤ 9
  fac : ∀ z ∈ l, -1000000000 ≤ z ∧ z ≤ 1000000000
theorem CbOk.term {M : Mx} {l : List Int} {c : Nat} (h : CbOk M l c) (t i : Nat) : -9000000000 ≤ vr l t * eM M t i ∧ vr l t * eM M t i ≤ 9000000000 := by
  have h1 : -1000000000 ≤ vr l t ∧ vr l t ≤ 1000000000 := by
    unfold vr
    by_cases ht : t < l.length
    · rw [getD_get ht]; exact h.fac _ (List.getElem_mem ht)
    · have : l.getD t 0 = 0 := by simp [List.getD, List.getElem?_eq_none (Nat.le_of_not_lt ht)]
      rw [this]; omega
  have h2 : -9 ≤ eM M t i ∧ eM M t i ≤ 9 := by
    unfold eM
    by_cases ht : t < M.length
    · rw [getD_get ht]
      by_cases hi : i < M[t].length
      · rw [getD_get hi]; exact h.ent _ (List.getElem_mem ht) _ (List.getElem_mem hi)
      · have : M[t].getD i 0 = 0 := by simp [List.getD, List.getElem?_eq_none (Nat.le_of_not_lt hi)]
        rw [this]; omega
    · have : M.getD t [] = [] := by simp [List.getD, List.getElem?_eq_none (Nat.le_of_not_lt ht)]
      rw [this]; simp
  generalize vr l t = a at *
  generalize eM M t i = b at *
  rcases (show b = -9 ∨ b = -8 ∨ b = -7 ∨ b = -6 ∨ b = -5 ∨ b = -4 ∨ b = -3 ∨ b = -2 ∨ b = -1 ∨ b = 0 ∨ b = 1 ∨ b = 2 ∨ b = 3 ∨ b = 4 ∨ b = 5 ∨ b = 6 ∨ b = 7 ∨ b = 8 ∨ b = 9 by omega) with rfl | rfl | rfl | rfl | rfl | rfl | rfl | rfl | rfl | rfl | rfl | rfl | rfl | rfl | rfl | rfl | rfl | rfl | rfl <;> omega
theorem CbOk.sum {M : Mx} {l : List Int} {c : Nat} (h : CbOk M l c) (i : Nat) {k : Nat} (hk : k ≤ 3) : -27000000000 ≤ sumZ (fun t => vr l t * eM M t i) k ∧ sumZ (fun t => vr l t * eM M t i) k ≤ 27000000000 := by
  have := sumZ_bd (f := fun t => vr l t * eM M t i) (B := 9000000000) (fun t => h.term t i) k
  omega
end Go.Proofs.YtokjolmpdfmnbaaGreatDoor
namespace Go.Proofs.YtokjolmpdfmnbaaGreatDoor
open Go.RowKit Go.Sort
def mulM (A B : Mx) (c : Nat) : Mx := A.map fun l => cbTo B l c B.length 0
@[simp] theorem mulM_length (A B : Mx) (c : Nat) : (mulM A B c).length = A.length := by simp [mulM]
theorem mulM_rect (A B : Mx) (c : Nat) : Rect c (mulM A B c) := fun r hr => by
  obtain ⟨l, _, rfl⟩ := List.mem_map.1 hr
  exact cbTo_length _ _ _ _ _
theorem mulM_get {A B : Mx} {c i : Nat} (h : i < A.length) : (mulM A B c)[i]'(by simpa using h) = cbTo B A[i] c B.length 0 := by simp [mulM]
theorem cbTo_sub {B : Mx} {l : List Int} {c k : Nat} (hR : Rect c B) (hk : k < B.length) : subK (-(vr l k)) (cbTo B l c k 0) B[k] = cbTo B l c (k + 1) 0 := by
  have hl := hR _ (List.getElem_mem hk)
  refine List.ext_getElem (by simp [cbTo_length]) fun i h1 h2 => ?_
  have hi : i < c := by simpa [cbTo_length] using h2
  rw [subK_get' _ _ _ _ (by rw [cbTo_length]; exact hi) (by omega), cbTo_get B l hi, cbTo_get B l hi]
  have e : eM B k i = B[k][i]'(by omega) := by unfold eM; rw [getD_get hk, getD_get (by omega)]
  show sumZ (fun t => vr l t * eM B t i) k + 0 - -(vr l k) * B[k][i]'(by omega) = (sumZ (fun t => vr l t * eM B t i) k + vr l k * eM B k i) + 0
  rw [e, Int.neg_mul]; omega
theorem sumZ_abs {f : Nat → Int} {P : Nat} (h : ∀ t, (f t).natAbs ≤ P) : ∀ k, (sumZ f k).natAbs ≤ k * P
  | 0 => by simp [sumZ]
  | k + 1 => by
    have := sumZ_abs h k
    have h2 := h k
    rw [sumZ, Nat.add_mul, Nat.one_mul]
    omega
def BitM (a : Nat) (A : Mx) : Prop := ∀ i k, (eM A i k).natAbs < 2 ^ a
theorem BitM.row {a : Nat} {A : Mx} (h : BitM a A) {i : Nat} (hi : i < A.length) (k : Nat) : (vr A[i] k).natAbs < 2 ^ a := by
  have := h i k
  unfold eM at this
  rwa [getD_get hi] at this
theorem bitm_of {a : Nat} {A : Mx} (h : ∀ r ∈ A, ∀ z ∈ r, z.natAbs < 2 ^ a) : BitM a A := fun i k => by
  have h0 : 0 < 2 ^ a := Nat.pow_pos (by omega)
  unfold eM
  by_cases hi : i < A.length
  · rw [getD_get hi]
    by_cases hk : k < A[i].length
    · rw [getD_get hk]; exact h _ (List.getElem_mem hi) _ (List.getElem_mem hk)
    · rw [List.getD_eq_getElem?_getD, List.getElem?_eq_none (by omega)]; exact h0
  · rw [show A.getD i [] = [] by rw [List.getD_eq_getElem?_getD, List.getElem?_eq_none (by omega)]; rfl]; exact h0
theorem cbTo_bit {a b : Nat} {B : Mx} {l : List Int} {c k i : Nat} (hl : ∀ t, (vr l t).natAbs < 2 ^ a) (hB : BitM b B) (hk : k ≤ 1000) (hi : i < (cbTo B l c k 0).length) : ((cbTo B l c k 0)[i]).natAbs < 2 ^ (a + b + 10) := by
  have hi' : i < c := by simpa [cbTo_length] using hi
  rw [cbTo_get B l hi', if_neg (by omega), Int.add_zero]
  have h1 := sumZ_abs (f := fun t => vr l t * eM B t i) (P := 2 ^ (a + b)) (fun t => by
    show (vr l t * eM B t i).natAbs ≤ _
    rw [Int.natAbs_mul, Nat.pow_add]
    exact Nat.mul_le_mul (Nat.le_of_lt (hl t)) (Nat.le_of_lt (hB t i))) k
  have h2 : k * 2 ^ (a + b) ≤ 1000 * 2 ^ (a + b) := Nat.mul_le_mul_right _ hk
  have h3 : 2 ^ (a + b + 10) = 2 ^ (a + b) * 1024 := by rw [Nat.pow_add]
  have h4 : 0 < 2 ^ (a + b) := Nat.pow_pos (by omega)
  omega
theorem mulM_bit {a b : Nat} {A B : Mx} {c : Nat} (hA : BitM a A) (hB : BitM b B) (hl : B.length ≤ 1000) : BitM (a + b + 10) (mulM A B c) := bitm_of fun r hr z hz => by
  obtain ⟨i, hi, rfl⟩ := List.getElem_of_mem hr
  obtain ⟨k, hk, rfl⟩ := List.getElem_of_mem hz
  have hi' : i < A.length := by simpa using hi
  simp only [mulM_get hi'] at hk ⊢
  exact cbTo_bit (hA.row hi') hB hl hk
def IntV (B : Nat) (w : World) (v : Value) (l : List Int) : Prop := w.ownsRow B 94 1 v l.length (ss l)
theorem IntV.nil (B : Nat) (w : World) : IntV B w (.slice none 0 0) [] := ⟨rfl, .inl ⟨rfl, rfl⟩⟩
theorem IntV.ext {B : Nat} {w w' : World} {v : Value} {l : List Int} (h : IntV B w v l) (he : Ext w w') : IntV B w' v l := ownsRow_ext h he
theorem IntV.mono {B B' : Nat} {w : World} {v : Value} {l : List Int} (h : IntV B w v l) (hB : B' ≤ B) : IntV B' w v l := ownsRow_mono h hB
theorem IntV.ints {B : Nat} {w : World} {v : Value} {l : List Int} (h : IntV B w v l) : IntsR w v l := by
  rcases h.2 with ⟨rfl, h0⟩ | ⟨g, cap, cur, rfl, hb, hg, hn, hm, hs, ht⟩
  · rw [List.eq_nil_of_length_eq_zero h0]
    exact ⟨none, 0, 0, 0, rfl, Nat.le_refl _, Sl.nil _ _ _ _⟩
  · have ho : OwnV 94 B w g cap (ss l) := by unfold OwnV; rw [ss_length]; exact h
    exact ⟨_, g, 0, cap, rfl, hn, ho.sl⟩
theorem ownV_int {B : Nat} {w : World} {g cap : Nat} {l : List Int} (h : OwnV 94 B w g cap (ss l)) : IntV B w (slv g l.length cap) l := by
  unfold OwnV at h
  rw [ss_length] at h
  exact h
theorem IntV.one {B : Nat} {w : World} {v : Value} {r : List Int} (h : IntV B w v r) : v.oneCell' = true := by
  rcases h.2 with ⟨rfl, _⟩ | ⟨g, cap, cur, rfl, _⟩ <;> rfl
def GridO (B : Nat) (w : World) (v : Value) (F : Mx) : Prop := ∃ vs, vs.length = F.length ∧ w.ownsRow B 99 1 v F.length vs ∧ ∀ t (_ : t < F.length) (h' : t < vs.length), IntV B w vs[t] F[t]
theorem GridO.nil (B : Nat) (w : World) : GridO B w (.slice none 0 0) [] := ⟨[], rfl, ⟨rfl, .inl ⟨rfl, rfl⟩⟩, fun t h => by simp at h⟩
theorem GridO.ext {B : Nat} {w w' : World} {v : Value} {F : Mx} (h : GridO B w v F) (he : Ext w w') : GridO B w' v F := by
  obtain ⟨vs, h1, h2, h3⟩ := h
  exact ⟨vs, h1, ownsRow_ext h2 he, fun t a b => (h3 t a b).ext he⟩
theorem GridO.grid {B : Nat} {w : World} {v : Value} {F : Mx} (h : GridO B w v F) : GridR w v F := by
  obtain ⟨vs, h1, h2, h3⟩ := h
  have hr : ∀ i (h : i < F.length) (h' : i < vs.length), IntsR w vs[i] F[i] := fun i a b => (h3 i a b).ints
  rcases h2.2 with ⟨rfl, h0⟩ | ⟨g, cap, cur, rfl, hb, hg, hn, hm, hs, ht⟩
  · have : F = [] := List.eq_nil_of_length_eq_zero h0
    subst this
    have hv : vs = [] := List.eq_nil_of_length_eq_zero h1
    subst hv
    exact ⟨none, 0, 0, 0, [], rfl, Nat.le_refl _, rfl, Sl.nil _ _ _ _, hr⟩
  · have ho : OwnV 99 B w g cap vs := by unfold OwnV; rw [h1]; exact h2
    exact ⟨_, g, 0, cap, vs, rfl, hn, h1, ho.sl, hr⟩
section
variable {w : World} {ops : Array Oper} {rest : List Oper} {o : Oper} {a : Act} {Q : Exit → Act → World → Prop}
theorem app_gridO (hgd : o.guard = none) (s x : Operand) (ho : o.op = .call { callee := .builtin .append, args := #[s, x], argTypes := #[90, 90] })
    {B : Nat} {v rv : Value} {F : Mx} {r : List Int} (hs : a.eval s = v) (hown : GridO B w v F) {b : Nat} (hx : a.eval x = .slice (some ⟨b, 0, none⟩) 1 1) (hc : w.cell? ⟨b, 0, none⟩ = some rv) (hr : IntV B w rv r) (hl : F.length ≤ 1000000000) (hB : B ≤ w.heap.size)
    (h : ∀ g cap w', GridO B w' (slv g (F.length + 1) cap) (F ++ [r]) → Below B w w' → w.grownBy w' v.ownBlock → wpList Tryz.prog ops Q rest (a.put o.dst (slv g (F.length + 1) cap)) w') : wpList Tryz.prog ops Q (o :: rest) a w := by
  obtain ⟨i0, hi, hz0, hz1, hz2⟩ := info_parts Tryz.infoInts
  obtain ⟨vs, h1, h2, h3⟩ := hown
  refine wpList_append_lies w hgd s x 90 ho B 99 i0 _ 1 24 Tryz.underlying90 hi hz0 hz1 hz2 rfl (by omega) v F.length vs hs h2 ⟨b, 0, none⟩ 1 1 [rv] hx rfl ?_ ?_ (by omega) (by unfold maxLen; omega) (by omega) hB w.heap.size rfl ?_
  · intro j u hj
    have : j = 0 := by have := (List.getElem?_eq_some_iff.1 hj).1; simp at this; omega
    subst this
    simp only [List.getElem?_cons_zero, Option.some.injEq] at hj
    subst hj
    simpa [Addr.add_lit] using hc
  · intro u hu
    simp only [List.mem_cons, List.not_mem_nil, or_false] at hu
    subst hu; exact hr.one
  · intro g cap w' k1 k2 k3 k4
    have hkeep : ∀ {u : Value} {l : List Int}, IntV B w u l → IntV B w' u l := fun hu => own_kept hu h2 (by decide) k2
    refine h g cap w' ⟨vs ++ [rv], by simp [h1], ?_, fun t ht ht' => ?_⟩ (Below.grown (Below.refl _ _) k2 hB (fun q hq => (World.ownsRow.lt h2 q hq).1)) k2
    · rw [List.length_append]; exact k1
    · rcases Nat.lt_or_ge t F.length with hlt | hge
      · rw [List.getElem_append_left (by omega), List.getElem_append_left hlt]
        exact hkeep (h3 t hlt (by omega))
      · have hte : t = F.length := by simp at ht; omega
        subst hte
        rw [List.getElem_append_right (by omega), List.getElem_append_right (by omega)]
        simp only [h1, Nat.sub_self, List.getElem_cons_zero]
        exact hkeep hr
end
end Go.Proofs.YtokjolmpdfmnbaaGreatDoor
namespace Go.Proofs.YtokjolmpdfmnbaaGreatDoor
open Go.RowKit Go.Sort
theorem run_row {w : World} {B : Nat} {v : Value} {r : List Int} (t T : TypeId) (ht : Tryz.prog.underlying t = some (.slice 3)) (hown : RowV B w v r) {vx : Value} {z : List Int} (hR : RowR w vx z) (hl : r.length + z.length ≤ 1000000000) (hB : B ≤ w.heap.size) :
    ∃ v' w', (Builtin.append_ #[t, t] T #[v, vx]).run Tryz.prog w = .ok v' w' ∧ RowV B w' v' (r ++ z) ∧ w.grownBy w' v.ownBlock := by
  obtain ⟨i0, hi, hz0, hz1, hz2⟩ := info_parts Tryz.infoInt
  obtain ⟨sa, b, c, gc, rfl, hc, hS⟩ := hR
  have hrun : ∃ v' w', (Builtin.append_ #[t, t] T #[v, .slice sa z.length gc]).run Tryz.prog w = .ok v' w' ∧ w'.ownsRow B 3 1 v' (r.length + z.length) (is r ++ is z) ∧ w.grownBy w' v.ownBlock := by
    rcases sa with _ | ad
    · have hz : z = [] := by
        rcases Nat.eq_zero_or_pos z.length with h0 | h0
        · exact List.eq_nil_of_length_eq_zero h0
        · have := hS.addr (by rw [is_length]; exact h0)
          cases this
      subst hz
      refine ⟨v, w, ?_, by have h1 := hown; unfold RowV at h1; simpa [is] using h1, World.grownBy.refl w _⟩
      rcases hown.2 with ⟨rfl, h0⟩ | ⟨g, cap, cur, rfl, _, _, hnc, _⟩
      · simp [Builtin.append_, run_underlying ht, sizeOf, typeInfo, hi, Builtin.lenOf, Builtin.firstCells]
      · simp [Builtin.append_, run_underlying ht, sizeOf, typeInfo, hi, Builtin.lenOf, Builtin.firstCells, hnc, storeCells]
    · have hcells : ∀ j u, (is z)[j]? = some u → w.cell? (ad.add j) = some u := fun j u hu => by
        have hj := (List.getElem?_eq_some_iff.1 hu).1
        obtain rfl : ad = ⟨b, c, none⟩ := Option.some.inj (hS.addr (by omega))
        rw [Lib.add_plain]; exact hS.cell j u hu
      obtain ⟨v', w', h1, h2, h3, _, _⟩ := run_append_own_at (P := Tryz.prog) w B t T 3 i0 _ 1 8 ht hi hz0 hz1 hz2 rfl (by omega) v r.length (is r) hown ad z.length gc (is z) (by rw [is_length, Nat.mul_one]) hcells (fun u hu => by obtain ⟨y, _, rfl⟩ := List.mem_map.1 hu; rfl) (by unfold maxLen; omega) (by omega) hB
      exact ⟨v', w', h1, h2, h3⟩
  obtain ⟨v', w', h1, h2, h3⟩ := hrun
  refine ⟨v', w', h1, ?_, h3⟩
  unfold RowV
  have e : is (r ++ z) = is r ++ is z := by simp [is]
  rw [e, List.length_append]; exact h2
end Go.Proofs.YtokjolmpdfmnbaaGreatDoor
