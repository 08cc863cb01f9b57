/- Part 19 of the proof of the claim: contracts of the functions that it reaches, and plain laws; no condition. -/
import Derived.Test.YtokjolmpdfmnbaaGreatDoorV18
import Derived.Test.YtokjolmpdfmnbaaGreatDoorV17
namespace Go.Proofs.YtokjolmpdfmnbaaGreatDoor
open Go.RowKit Go.Sort
theorem GrX.put {B : Nat} {w w6 : World} {g cap i gx cx : Nat} {F : Mx} {ad : List (Nat × Nat)} {r : List Int} {R : Nat → Prop} (h : GrX B w (slv g F.length cap) F ad) (hi : i < F.length) (hr0 : 0 < r.length) (hO : OwnV 94 B w6 gx cx (ss r)) (hC : Chg R w w6) (hRg : ¬ R g)
    (hR : ∀ j (_ : j < ad.length) (h : j < F.length), 0 < F[j].length → j ≠ i → ¬ R ad[j].1) (hne : ∀ j (_ : j < ad.length) (h : j < F.length), 0 < F[j].length → j ≠ i → ad[j].1 ≠ gx) :
    GrX B (w6.setCell ⟨g, i, none⟩ (slv gx r.length cx)) (slv g F.length cap) (F.set i r) (ad.set i (gx, cx)) ∧ w6.grownBy (w6.setCell ⟨g, i, none⟩ (slv gx r.length cx)) (some g) := by
  have hi' : i < ad.length := by rw [h.len]; exact hi
  have h1 := (hC.own hRg h.outer).set i (slv gx r.length cx)
  have hOg := ne_outer (hC.own hRg h.outer) hO
  refine ⟨⟨by simp [h.len], ?_, fun j hj hj' hj0 => ?_, fun j k hj hk hj2 hk2 hj0 hk0 hjk => ?_⟩, h1.2⟩
  · have := h1.1
    unfold OwnV at this
    rw [show slv gx r.length cx = xv r.length (gx, cx).1 (gx, cx).2 from (xv_pos hr0 _ _).symm, ← hdV_set, hdV_length _ _ (by simp [h.len]), List.length_set] at this
    rw [List.length_set, show slv gx r.length cx = xv r.length (gx, cx).1 (gx, cx).2 from (xv_pos hr0 _ _).symm]; exact this
  · rw [List.length_set] at hj hj'
    by_cases hij : i = j
    · subst hij; simp only [List.getElem_set_self]; exact hO.other h1.2 hOg
    · simp only [List.getElem_set_ne hij] at hj0 ⊢
      have hOj := h.row j hj hj' hj0
      exact (hC.own (hR j hj' hj hj0 (Ne.symm hij)) hOj).other h1.2 (ne_outer h.outer hOj)
  · rw [List.length_set] at hj hk hj2 hk2
    by_cases hij : i = j
    · subst hij
      simp only [List.getElem_set_ne hjk] at hk0
      simp only [List.getElem_set_self, List.getElem_set_ne hjk]
      exact Ne.symm (hne k hk hk2 hk0 (Ne.symm hjk))
    · simp only [List.getElem_set_ne hij] at hj0 ⊢
      by_cases hik : i = k
      · subst hik
        simp only [List.getElem_set_self]
        exact hne j hj hj2 hj0 hjk
      · simp only [List.getElem_set_ne hik] at hk0 ⊢
        exact h.dis j k hj hk hj2 hk2 hj0 hk0 hjk
theorem GrX.hd {B : Nat} {w : World} {g cap i : Nat} {F : Mx} {ad : List (Nat × Nat)} (h : GrX B w (slv g F.length cap) F ad) (hi : i < F.length) :
    ∃ gx cx, ad[i]? = some (gx, cx) ∧ w.cell? ⟨g, i, none⟩ = some (xv (F.getD i []).length gx cx) ∧ IntsV B w (xv (F.getD i []).length gx cx) (F.getD i []) ∧ (0 < (F.getD i []).length → gx ≠ g) := by
  have hi' : i < ad.length := by rw [h.len]; exact hi
  have hg := hdV_get ad F i hi' hi
  obtain ⟨hlt, he⟩ := List.getElem?_eq_some_iff.1 hg
  refine ⟨ad[i].1, ad[i].2, by rw [List.getElem?_eq_getElem hi'], ?_, ?_, fun h0 => ?_⟩
  · rw [h.outer.cell (j := i) hlt, he, getD_get hi]
  · rw [getD_get hi]
    rcases Nat.eq_zero_or_pos F[i].length with e | e
    · have : F[i] = [] := List.eq_nil_of_length_eq_zero e
      rw [this]; exact IntsV.nil _ _
    · rw [xv_pos e]; exact (h.row i hi hi' e).ints
  · rw [getD_get hi] at h0; exact ne_outer h.outer (h.row i hi hi' h0)
def wideTo (i : Nat) (M : Mx) : Mx := M.mapIdx fun j r => if j < i then r ++ unitR M.length j else r
@[simp] theorem wideTo_length (i : Nat) (M : Mx) : (wideTo i M).length = M.length := by simp [wideTo]
theorem wideTo_get {i : Nat} {M : Mx} {j : Nat} (h : j < M.length) : (wideTo i M)[j]'(by simpa using h) = if j < i then M[j] ++ unitR M.length j else M[j] := by simp [wideTo]
theorem wideTo_zero (M : Mx) : wideTo 0 M = M := List.ext_getElem (by simp) fun j h1 h2 => by rw [wideTo_get h2, if_neg (by omega)]
theorem wideTo_all (M : Mx) : wideTo M.length M = wideM M := List.ext_getElem (by simp) fun j h1 h2 => by
  have hj : j < M.length := by simpa using h1
  rw [wideTo_get hj, if_pos hj, wideM_get hj]
theorem wideTo_step {i : Nat} {M : Mx} (h : i < M.length) : wideTo (i + 1) M = (wideTo i M).set i (M[i] ++ unitR M.length i) := by
  refine List.ext_getElem (by simp) fun j h1 h2 => ?_
  have hj : j < M.length := by simpa using h1
  rw [wideTo_get hj]
  by_cases e : i = j
  · subst e; rw [List.getElem_set_self, if_pos (by omega)]
  · rw [List.getElem_set_ne e, wideTo_get hj]
    by_cases h2 : j < i
    · rw [if_pos h2, if_pos (by omega)]
    · rw [if_neg h2, if_neg (by omega)]
theorem wideTo_at {i : Nat} {M : Mx} (h : i < M.length) : (wideTo i M).getD i [] = M[i] := by
  rw [getD_get (by simpa using h), wideTo_get h, if_neg (by omega)]
theorem ss_append (a b : List Int) : ss (a ++ b) = ss a ++ ss b := by simp [ss]
theorem Gr.gridTake {B : Nat} {w : World} {g cap N n d : Nat} {ad : List (Nat × Nat)} {ls : List Ln} (h : Gr B w g cap N n ad ls) (hn : 0 < n) (hd : d ≤ N) (hcap : d ≤ cap) : GridR w (slv g d cap) (fRows d ls) := by
  have hl : (fRows d ls).length = d := fRows_length (by rw [h.len]; exact hd)
  have hO := h.grl.outer
  have hal : ad.length = N := by rw [h.grl.len, rowsL_length, h.len]
  refine ⟨_, g, 0, cap, (hdV ad (rowsL ls)).take d, by rw [hl], by rw [hl]; exact hcap, by rw [hl, List.length_take, hdV_length _ _ h.grl.len, rowsL_length, h.len]; omega, hO.sl.take d, fun i hi hi' => ?_⟩
  rw [hl] at hi
  have hir : i < (rowsL ls).length := by rw [rowsL_length, h.len]; omega
  have hg := hdV_get ad (rowsL ls) i (by omega) hir
  obtain ⟨_, he⟩ := List.getElem?_eq_some_iff.1 hg
  rw [List.getElem_take, he]
  have hrl : (rowsL ls)[i].length = n := h.rect _ (List.getElem_mem hir)
  have hrow := h.gr.row i hir (by omega) (by omega)
  have hf : (fRows d ls)[i]'(by rw [hl]; exact hi) = (rowsL ls)[i] := by
    rw [fRows_get hi (by rw [h.len]; exact hd), ← rowsL_getD, getD_get hir]
  rw [hf, xv_pos (by omega)]
  exact hrow.intsR rfl
def WdPost (w : World) (M : Mx) (c : Nat) (e : Ending) (w' : World) : Prop :=
  ∃ g cap H, e = .returned (.tuple #[slv g H.length cap, .int .i64 c]) ∧ HnfOf (c + M.length) (wideM M) H ∧ H.length ≤ M.length ∧ GridR w' (slv g H.length cap) H ∧ (∀ r ∈ H, ∀ z ∈ r, z.natAbs < 2 ^ bC M.length 30 (c + M.length)) ∧ Ext w w'
theorem wide_all {M : Mx} (h : ∀ r ∈ M, ∀ z ∈ r, -1000000000 ≤ z ∧ z ≤ 1000000000) : AllL 30 (ln1 (wideM M)) := by
  intro i hi
  have hi' : i < M.length := by simpa using hi
  rw [getD_get hi]
  have e : (ln1 (wideM M))[i] = ((wideM M)[i]'(by simpa using hi'), []) := by simp [ln1]
  rw [e, wideM_get hi']
  constructor
  · intro z hz
    show z.natAbs < 2 ^ 30
    have e : (2 : Nat) ^ 30 = 1073741824 := by decide
    rw [e]
    rcases List.mem_append.1 hz with hz | hz
    · have := h _ (List.getElem_mem hi') z hz; omega
    · unfold unitR at hz
      rcases List.mem_or_eq_of_mem_set hz with hz | hz
      · have := (List.mem_replicate.1 hz).2; omega
      · omega
  · intro z hz; cases hz
set_option maxRecDepth 100000 in
set_option maxHeartbeats 1000000 in
theorem wide_any {w : World} {v : Value} {M : Mx} {c : Nat} (hM : MatR w v M) (hR : Rect c M) (h0 : 0 < M.length) (hl : M.length ≤ 1000) (hc : c ≤ 1000) (hent : ∀ r ∈ M, ∀ z ∈ r, -1000000000 ≤ z ∧ z ≤ 1000000000)
    (hk : 2 * (2 * bC M.length 30 (c + M.length) + 2) + 2 < LIM) (hL : Laid w) : Calls Tryz.prog 85 #[v] w (WdPost w M c) := by
  obtain ⟨sa, gb, go, cp, vs, hv, hcp, hvl, hS, hr⟩ := id hM
  obtain ⟨sr, br, or, cr, hrow, _, _⟩ := MatR.row hS hvl hr h0
  have hrc : M[0].length = c := hR _ (List.getElem_mem h0)
  rw [hrc, Nat.add_zero] at hrow
  have hbig := Lib.hid (sbig_any (w := w) hM (by omega) (fun r hr => by rw [hR r hr]; omega) (fun r hr z hz => by have := hent r hr z hz; unfold I64; omega) hL)
  obtain ⟨s0, hs, hy0, hy1, hy2⟩ := info_parts Tryz.infoStr
  subst hv
  obtain rfl := hS.addr (by omega)
  have HR := Lib.hid hR
  have Hent := Lib.hid hent
  have HK := Lib.hid hk
  have HL := Lib.hid hL
  obtain ⟨N, hN⟩ : ∃ N, N = M.length := ⟨_, rfl⟩
  have hun := Lib.hid (fun W => sunit_any (w := W) (n := N) (by omega))
  have HN := Lib.hid hN
  have hN0 : (N == 0) = false := beq_eq_false_iff_ne.2 (by omega)
  have hN1 : ((N : Int) == 0) = false := beq_eq_false_iff_ne.2 (by omega)
  have hN2 : 0 < N := by omega
  have hN3 : N ≤ 1000 := by omega
  rw [← hN] at hbig ⊢
  clear hM hR hent hk hL hvl hS hr hrc hN
  go_enter Tryz.func85, Tryz.ntmps85
  go_wp2_with fail
  refine hbig.out.mono ?_
  rintro e w1 ⟨v1, ad1, rfl, hG1, hE1⟩
  go_wp2_with fail
  refine (hun.out w1).mono ?_
  rintro e w2 ⟨v2, ad2, rfl, hG2, hE2⟩
  obtain ⟨ga1, cap1, rfl, hcap1, hs1⟩ := hG1.shape
  obtain ⟨g1, rfl⟩ := hs1 (by rw [← HN.out]; exact hN2)
  obtain ⟨ga2, cap2, rfl, hcap2, hs2⟩ := hG2.shape
  obtain ⟨g2, rfl⟩ := hs2 (by rw [unitM_length]; exact hN2)
  rw [← HN.out] at hcap1 ⊢
  rw [unitM_length] at hcap2 ⊢
  have HG1 := Lib.hid hG1
  have HG2 := Lib.hid hG2
  have hb1 := hG1.outer.lt
  have hb2 := hG2.outer.lt
  have hsz1 := hE1.size
  have hsz2 := hE2.size
  have hE12 := hE1.trans hE2
  clear hG1 hG2 hbig hun
  go_wp2_with fail
  go_loopw [21] (fun idx wr => ∃ (i : Nat) (ad3 : List (Nat × Nat)), i ≤ N ∧ idx = .int .i64 i ∧ Hid (GrX w.heap.size wr (slv g1 (wideTo i M).length cap1) (wideTo i M) ad3) ∧ Hid (∀ j, i ≤ j → ad3[j]? = ad1[j]?) ∧ Hid (Chg (fun k => w.heap.size ≤ k ∧ k < w1.heap.size) w2 wr)) (fun idx _ => N - (intOf idx).toNat)
  case atStart => exact ⟨0, ad1, by omega, by go_num, Lib.hid (by rw [wideTo_zero]; exact HG1.out.ext hE2), Lib.hid (fun j _ => rfl), Lib.hid (Chg.refl _ _)⟩
  case round =>
    obtain ⟨i, ad3, hi, rfl, hG, ha, hC⟩ := hrel
    generalize wr = X at *
    have hEX : Ext w X := hC.out.ext hE12 (fun k hk => hk.1)
    by_cases hlt : i < N
    · have hii : (i : Int) < (N : Int) := by omega
      have hiM : i < M.length := by rw [← HN.out]; exact hlt
      obtain ⟨gx, cx, ead, c1, hI, hgx⟩ := hG.out.hd (i := i) (by rw [wideTo_length]; exact hiM)
      rw [wideTo_at hiM] at c1 hI hgx
      obtain ⟨gu, cu, eadu, cu1, hIu, hgu⟩ := HG2.out.hd (i := i) (by rw [unitM_length]; exact hlt)
      have hur : (unitM N).getD i [] = unitR N i := by rw [getD_get (by simpa using hlt), unitM_get]
      have hul : (unitR N i).length = N := by simp [unitR]
      rw [hur, hul, xv_pos hN2] at cu1 hIu
      have hou : OwnV 94 w1.heap.size w2 gu cu (ss (unitR N i)) := by
        unfold IntsV at hIu; unfold OwnV; rw [ss_length, hul]; rw [hul] at hIu; exact hIu
      have hgul := hou.lt
      have hcu := hC.out.cell (by omega) cu1
      have hou2 := Lib.hid (hC.out.own (by omega) hou)
      obtain ⟨r, hr⟩ : ∃ r, r = M[i] := ⟨_, rfl⟩
      have hrl : r.length = c := by rw [hr]; exact HR.out _ (List.getElem_mem hiM)
      have Hstep := Lib.hid (wideTo_step hiM)
      rw [← hr] at c1 hI hgx Hstep
      rw [← HN.out] at Hstep
      have hgx1 : 0 < r.length → w.heap.size ≤ gx ∧ gx < w1.heap.size := fun h => by
        have h2 := HG1.out.hd (i := i) hiM
        obtain ⟨gy, cy, eady, _, hIy, _⟩ := h2
        have := ha.out i (Nat.le_refl _)
        rw [ead, eady] at this
        injection this with this
        injection this with e1 e2
        rw [← e1] at hIy
        rw [getD_get hiM, ← hr, xv_pos h] at hIy
        exact World.ownsRow.lt hIy gx rfl
      obtain ⟨xa, xl, xk, hxv⟩ := xv_slice r.length gx cx
      have hob : ∀ q, (xv r.length gx cx).ownBlock = some q → w.heap.size ≤ q ∧ q < w1.heap.size := fun q hq => by
        rw [xv_own] at hq
        split at hq
        · cases hq
        · injection hq with hq; subst hq; exact hgx1 (by omega)
      have Hob := Lib.hid hob
      have HI := Lib.hid hI
      have Hrl := Lib.hid hrl
      have fz := hG.out.outer.frozen i
      have Hgx := Lib.hid hgx
      have Ead := Lib.hid ead
      have Hxv := Lib.hid hxv
      rw [hxv] at c1
      have hXw := hEX.size
      have hX2 := hC.out.size
      clear hr hrl hI hgx eadu hIu hgu hur hul hou cu1 hob hgx1 ead hxv
      have HNews := Lib.hid (show ∀ (j : Nat) (u : Value), (ss (unitR N i))[j]? = some u → X.drew.cell? ((⟨gu, 0, none⟩ : Addr).add j) = some u from fun j u hj => by
        have h2 := hou2.out.sl.cell j u hj
        simpa [Addr.add_lit] using h2)
      have HOne := Lib.hid (show ∀ u ∈ ss (unitR N i), u.oneCell' = true from fun u hu => by
        obtain ⟨y, _, rfl⟩ := List.mem_map.1 hu
        rfl)
      have HTo := Lib.hid (show some g1 ≠ (xv r.length gx cx).ownBlock by
        rw [xv_own]
        split
        · simp
        · intro e; injection e with e; exact Hgx.out (by omega) e.symm)
      have Hgl := Lib.hid (show g1 < X.heap.size by omega)
      have Hrn := Lib.hid (show r.length + N ≤ 2000 by rw [Hrl.out]; omega)
      have Hun := Lib.hid (show (ss (unitR N i)).length = N * 1 by rw [ss_length]; simp [unitR])
      have hcap1' : (i : Int) < (cap1 : Int) := by omega
      go_wp2_with fail
      go_region_law (refine step_append_lies _ (by rfl) _ _ _ (by rfl) w.heap.size 94 s0 _ 1 16 Tryz.underlying99 hs hy0 hy1 hy2 rfl (by omega) (xv r.length gx cx) r.length (ss r) (by rw [Hxv.out]; rfl) (ownsRow_ext HI.out ((Ext.refl _).drew)) ⟨gu, 0, none⟩ N cu (ss (unitR N i)) (by rfl) Hun.out HNews.out HOne.out hN2 (by have := Hrn.out; unfold maxLen; omega) (by have := Hrn.out; omega) hXw X.heap.size (by simp) ?_; intro gg cap6 w6 hown6 hgrow6 hat6 hlt6; have t6 := hgrow6.cell (((Ext.refl X).drew).cell c1) HTo.out; have f6 : w6.frozen? ⟨g1, i, none⟩ = false := (hgrow6.frozen_far ⟨g1, i, none⟩ Hgl.out HTo.out).trans fz)
      all_goals
        have hrn : (r ++ unitR N i).length = r.length + N := by rw [List.length_append]; simp [unitR]
        have hO6 : OwnV 94 w.heap.size w6 gg cap6 (ss (r ++ unitR N i)) := by
          unfold OwnV; rw [ss_append, List.length_append, ss_length, ss_length, show (unitR N i).length = N by simp [unitR]]; exact hown6
        have hC6 : Chg (fun k => (xv r.length gx cx).ownBlock = some k) X w6 := by
          have h1 := Chg.of_ext (R := fun k => (xv r.length gx cx).ownBlock = some k) ((Ext.refl X).drew)
          refine h1.trans ⟨hgrow6.os, hgrow6.tape, hgrow6.output, hgrow6.size, fun k hk hn => hgrow6.block k hk (fun e => hn e.symm)⟩
        have hal : ad3.length = (wideTo i M).length := hG.out.len
        have hgi : ∀ j (hj : j < ad3.length) (h : j < (wideTo i M).length), 0 < (wideTo i M)[j].length → j ≠ i → (xv r.length gx cx).ownBlock ≠ some ad3[j].1 ∧ ad3[j].1 ≠ gg := fun j hj h hj0 hji => by
          have h1 : (xv r.length gx cx).ownBlock ≠ some ad3[j].1 := by
            rw [xv_own]
            split
            · simp
            · intro e
              injection e with e
              have hia : i < ad3.length := by rw [hal, wideTo_length]; exact hiM
              have hiw : i < (wideTo i M).length := by rw [wideTo_length]; exact hiM
              have ei := Ead.out
              rw [List.getElem?_eq_getElem hia] at ei
              have ei2 := Option.some.inj ei
              have hl0 : 0 < (wideTo i M)[i].length := by
                have := wideTo_at hiM
                rw [getD_get hiw] at this
                have h5 : M[i].length = c := HR.out _ (List.getElem_mem hiM)
                rw [this, h5, ← Hrl.out]; omega
              have := hG.out.dis j i hj hia h hiw hj0 hl0 hji
              rw [ei2] at this
              exact this e.symm
          refine ⟨h1, fun e => ?_⟩
          rcases hat6 with h2 | h2
          · rw [e] at h1; exact h1 h2
          · have := (hG.out.lt j hj h hj0).2; omega
        have hput := hG.out.put (i := i) (r := r ++ unitR N i) (by rw [wideTo_length]; exact hiM) (by omega) hO6 hC6 (fun e => HTo.out e.symm) (fun j hj h hj0 hji => (hgi j hj h hj0 hji).1) (fun j hj h hj0 hji => (hgi j hj h hj0 hji).2)
        rw [hrn] at hput
        have hCn : Chg (fun k => w.heap.size ≤ k ∧ k < w1.heap.size) w2 (w6.setCell ⟨g1, i, none⟩ (slv gg (r.length + N) cap6)) :=
          (hC.out.trans (hC6.mono (fun k _ hk => Hob.out k hk))).trans (Chg.of_grown hput.2 ⟨hb1.1, hb1.2⟩)
        have hG7 := Lib.hid (show GrX w.heap.size (w6.setCell ⟨g1, i, none⟩ (slv gg (r.length + N) cap6)) (slv g1 (wideTo (i + 1) M).length cap1) (wideTo (i + 1) M) (ad3.set i (gg, cap6)) by
          rw [Hstep.out, List.length_set]; exact hput.1)
        have hC7 := Lib.hid hCn
        generalize hw7 : World.setCell w6 _ _ = w7 at *
        clear hw7 hown6 hgrow6 hat6 t6 f6 hlt6 hrn hO6 hC6 hal hgi hput hCn
        go_wp2_with fail
        go_roundw
        case rel => exact ⟨i + 1, _, by omega, by go_num, hG7, Lib.hid (fun j hj => by rw [List.getElem?_set_ne (by omega)]; exact ha.out j (by omega)), hC7⟩
        case measure => simp [intOf] <;> omega
    · have hie : i = N := by omega
      have hii : ¬ (i : Int) < (N : Int) := by omega
      have hG5 := hG.out
      have hwl : (wideTo i M).length = N := by rw [wideTo_length, HN.out]
      rw [hwl] at hG5
      rw [show wideTo i M = rowsL (ln1 (wideM M)) by rw [hie, HN.out, wideTo_all, rowsL_ln1]] at hG5
      have hGr : Gr w.heap.size X g1 cap1 N (c + N) ad3 (ln1 (wideM M)) := ⟨hG5, by rw [ln1_length, wideM_length, HN.out], ln1_dim (by have := wideM_rect HR.out; rw [← HN.out] at this; exact this)⟩
      have hkN := HK.out
      rw [← HN.out] at hkN
      have hher := Lib.hid (hermitian_any hGr hN2 (by omega) (by omega) (by omega) hcap1 (wide_all Hent.out) hkN HL.out hEX)
      have hcN : ((c + N : Nat) : Int) = (c : Int) + (N : Int) := by omega
      rw [hcN] at hher
      clear hG5 hGr hkN hwl hcN hie
      go_wp2_with fail
      refine hher.out.mono ?_
      rintro e X2 ⟨d, ps, ad4, ls4, rfl, hdN, hG8, hF, hO, hA, hE8⟩
      have Hres := Lib.hid (show WdPost w M c (.returned (.tuple #[slv g1 d cap1, .int .i64 c])) X2 by
        have hl : (fRows d ls4).length = d := fRows_length (by rw [hG8.len]; exact hdN)
        have hfo := form_of1 (M := wideM M) (n := c + N) (by have := wideM_rect HR.out; rw [← HN.out] at this; exact this) hO hF
        rw [HN.out] at hfo
        refine ⟨g1, cap1, fRows d ls4, by rw [hl], hfo, by rw [hl, ← HN.out]; exact hdN, by rw [hl]; exact hG8.gridTake (by omega) hdN (by omega), fun r hr z hz => ?_, hE8⟩
        obtain ⟨t, ht, rfl⟩ := List.getElem_of_mem hr
        rw [hl] at ht
        rw [fRows_get ht (by rw [hG8.len]; exact hdN)] at hz
        have := (hA t (by rw [hG8.len]; omega)).1 z hz
        rw [← HN.out]; exact this)
      clear hher hG8 hF hO hA
      go_wp2_with fail
      go_ret2
      exact Hres.out
end Go.Proofs.YtokjolmpdfmnbaaGreatDoor
namespace Go.Proofs.YtokjolmpdfmnbaaGreatDoor
open Go.RowKit Go.Sort
theorem Tryz.infoRat : (Tryz.prog.info? 96).map (fun i => (i.zero, i.size, i.bytes)) = some (some (.agg #[.string ⟨#[]⟩, .string ⟨#[]⟩]), 2, 32) := by kernel_rfl
theorem fl_rep (n : Nat) (e : Value) : fl (List.replicate n (e, e)) = List.replicate (n * 2) e := by
  induction n with
  | zero => rfl
  | succ n ih => rw [List.replicate_succ, fl_cons, ih, show (n + 1) * 2 = n * 2 + 1 + 1 by omega, List.replicate_succ, List.replicate_succ]
theorem made_two (e : Value) (n : Nat) : (madeCells #[e, e] n).toList = List.replicate n e := by
  refine List.ext_getElem? fun i => ?_
  rw [List.getElem?_replicate]
  by_cases h : i < n
  · rw [if_pos h]
    simp only [madeCells, Array.toList_map, Array.toList_range, List.getElem?_map, List.getElem?_range h, Option.map_some]
    rcases Nat.mod_two_eq_zero_or_one i with h2 | h2 <;> simp [h2]
  · rw [if_neg h]
    simp [madeCells]; omega
theorem frv_made {B n g : Nat} {w : World} {e : Value} (h : w.ownsRow B 96 2 (.slice (some ⟨g, 0, none⟩) n n) n (madeCells #[e, e] (n * 2)).toList) (hn : n ≤ 1000000) : FrV B w g (List.replicate n (e, e)) := by
  obtain ⟨h1, h2 | ⟨g', cap, cur, hv, hB, hh, hc, hm, hs, ht⟩⟩ := h
  · obtain ⟨h3, _⟩ := h2; simp at h3
  · simp only [Value.slice.injEq, Option.some.injEq, Addr.mk.injEq, and_true, true_and] at hv
    obtain ⟨rfl, _, rfl⟩ := hv
    unfold FrV
    rw [made_two] at ht
    refine OwnV.of hB hh (by rw [fl_length]; simp) (by rw [List.length_replicate]; unfold maxLen; omega) (by rw [List.length_replicate]; omega) ?_
    rw [fl_length, fl_rep, List.length_replicate, Nat.mul_comm 2 n]
    exact ht
def HbPost (w : World) (M : Mx) (c : Nat) (e : Ending) (w' : World) : Prop :=
  ∃ g cap H, e = .returned (slv g H.length cap) ∧ HnfOf c M H ∧ H.length ≤ M.length ∧ GridR w' (slv g H.length cap) H ∧ (∀ r ∈ H, ∀ z ∈ r, z.natAbs < 2 ^ bC M.length 30 c) ∧ Ext w w'
theorem big_all {M : Mx} (h : ∀ r ∈ M, ∀ z ∈ r, -1000000000 ≤ z ∧ z ≤ 1000000000) : AllL 30 (ln1 M) := by
  intro i hi
  have hi' : i < M.length := by simpa using hi
  rw [getD_get hi]
  have e : (ln1 M)[i] = (M[i], []) := by simp [ln1]
  rw [e]
  constructor
  · intro z hz
    show z.natAbs < 2 ^ 30
    have e : (2 : Nat) ^ 30 = 1073741824 := by decide
    rw [e]
    have := h _ (List.getElem_mem hi') z hz; omega
  · intro z hz; cases hz
theorem herm_big {w X : World} {M : Mx} {g cap c : Nat} {ad : List (Nat × Nat)} (hG : GrX w.heap.size X (slv g M.length cap) M ad) (hcap : M.length ≤ cap) (hR : Rect c M) (h0 : 0 < M.length) (hc0 : 0 < c) (hl : M.length ≤ 1000) (hc : c ≤ 1000)
    (hent : ∀ r ∈ M, ∀ z ∈ r, -1000000000 ≤ z ∧ z ≤ 1000000000) (hk : 2 * (2 * bC M.length 30 c + 2) + 2 < LIM) (hE : Ext w X) (hL : Laid w) :
    Calls Tryz.prog 43 #[slv g M.length cap, .int .i64 c] X (HbPost w M c) := by
  have hGr : Gr w.heap.size X g cap M.length c ad (ln1 M) := ⟨by rw [rowsL_ln1]; exact hG, by rw [ln1_length], ln1_dim hR⟩
  refine (hermitian_any hGr h0 hc0 (by omega) (by omega) hcap (big_all hent) hk hL hE).mono ?_
  rintro e X2 ⟨d, ps, ad4, ls4, rfl, hdN, hG8, hF, hO, hA, hE8⟩
  have hl : (fRows d ls4).length = d := fRows_length (by rw [hG8.len]; exact hdN)
  have hfo := form_of1 (M := M) (n := c) hR hO hF
  refine ⟨g, cap, fRows d ls4, by rw [hl], hfo, by rw [hl]; exact hdN, by rw [hl]; exact hG8.gridTake (by omega) hdN (by omega), fun r hr z hz => ?_, hE8⟩
  obtain ⟨t, ht, rfl⟩ := List.getElem_of_mem hr
  rw [hl] at ht
  rw [fRows_get ht (by rw [hG8.len]; exact hdN)] at hz
  exact (hA t (by rw [hG8.len]; omega)).1 z hz
end Go.Proofs.YtokjolmpdfmnbaaGreatDoor
namespace Go.Proofs.YtokjolmpdfmnbaaGreatDoor
open Go.RowKit Go.Sort
def ordS (x : List Int) (i : Nat) : List (Value × Value) := (x.take i).map (fun z => (I z, I 1)) ++ List.replicate (x.length - i) (.string ⟨#[]⟩, .string ⟨#[]⟩)
theorem ordS_at (x : List Int) {i : Nat} (h : i < x.length) : (ordS x i)[i]? = some (.string ⟨#[]⟩, .string ⟨#[]⟩) := by
  unfold ordS
  rw [List.getElem?_append_right (by simp; omega), List.getElem?_replicate, if_pos (by simp; omega)]
theorem ordS_set (x : List Int) {i : Nat} (h : i < x.length) : (ordS x i).set i (I x[i], I 1) = ordS x (i + 1) := by
  unfold ordS
  rw [List.set_append_right _ _ (by simp; omega)]
  have e : i - ((x.take i).map fun z => (I z, I 1)).length = 0 := by simp; omega
  rw [e, show x.length - i = (x.length - (i + 1)) + 1 by omega, List.replicate_succ, List.set_cons_zero, List.take_succ_eq_append_getElem h, List.map_append, List.append_assoc]
  rfl
theorem ordS_all (x : List Int) : ordS x x.length = (x.map fun z => (z, (1 : Int))).map qv := by
  unfold ordS
  rw [List.take_length, Nat.sub_self, List.map_map]
  simp [qv, Function.comp_def]
theorem fNew_one {n : Int} (hn : nd n < LIM) {w : World} (hL : Laid w) :
    Calls Tryz.prog 47 #[I n, .string ⟨#[49]⟩] w fun e w' => e = .returned (.tuple #[.agg #[I n, I 1], .int .i64 0]) ∧ Ext w w' := by
  have h := fNew_any (n := n) (d := 1) hn (by show Lib.nDigits _ < LIM; have := nDigits_le (u := (1 : Int).natAbs) (k := 1) (by decide) (by omega); unfold LIM; omega) (by omega) hL
  rw [qn_one, qd_one] at h
  have hI1 : I 1 = .string ⟨#[49]⟩ := by unfold I S; rw [itoa_one]
  rw [← hI1]
  exact h
theorem fOf_one {n : Int} (hn : -9223372036854775808 ≤ n ∧ n ≤ 9223372036854775807) {w : World} (hL : Laid w) :
    Calls Tryz.prog 45 #[.int .i64 n, .int .i64 1] w fun e w' => e = .returned (.tuple #[.agg #[I n, I 1], .int .i64 0]) ∧ Ext w w' := by
  have h := fOf_any (n := n) (d := 1) hn ⟨by omega, by omega⟩ (by omega) hL
  rw [qn_one, qd_one] at h
  exact h
theorem nd_1 : nd 1 = 1 := by
  have h1 := nDigits_le (u := (1 : Int).natAbs) (k := 1) (by decide) (by omega)
  have h2 := nd_pos 1
  unfold nd at *
  omega
theorem nd_lcm {a b : Nat} (ha : 0 < a) (hb : 0 < b) : nd (Nat.lcm a b : Nat) ≤ nd (a : Int) + nd (b : Int) := by
  refine Nat.le_trans (nd_le (b := (a : Int) * b) ?_) (nd_mul _ _)
  have := Nat.lcm_le_mul ha hb
  rw [Int.natAbs_mul]
  simpa using this
theorem ordQ_ok {n : Nat} {r : List Int} {H : Mx} {s : List (Int × Int)} (h : BndF n (r :: H) s) : nd (ordQ r s).1 ≤ 20000000 ∧ nd (ordQ r s).2 ≤ 20000000 ∧ 0 < (ordQ r s).2 := by
  obtain ⟨h1, h2, h3, h4, _⟩ := h
  obtain ⟨a, b, c⟩ := h1 _ h2
  have d := h4 _ h2
  unfold ordQ qdiv qmk
  refine ⟨Nat.le_trans (nd_qn _ _) (Nat.le_trans (nd_mul _ _) ?_), Nat.le_trans (nd_qd _ _) (Nat.le_trans (nd_mul _ _) ?_), qd_pos (Int.mul_ne_zero (by omega) h3)⟩
  · show nd (s.getD (pv r) (0, 1)).1 + nd 1 ≤ _
    rw [nd_1]; omega
  · show nd (s.getD (pv r) (0, 1)).2 + nd (r.getD (pv r) 0) ≤ _
    omega
theorem ordM_ok {q : Int × Int} {k : Int} (hq : nd q.1 ≤ 20000000 ∧ nd q.2 ≤ 20000000 ∧ 0 < q.2) (hk : nd k ≤ 10000000) : nd (qmul q (k, 1)).1 ≤ 30000000 ∧ nd (qmul q (k, 1)).2 ≤ 30000000 ∧ 0 < (qmul q (k, 1)).2 := by
  unfold qmul qmk
  refine ⟨Nat.le_trans (nd_qn _ _) (Nat.le_trans (nd_mul _ _) ?_), Nat.le_trans (nd_qd _ _) (Nat.le_trans (nd_mul _ _) ?_), qd_pos ?_⟩
  · show nd q.1 + nd k ≤ _
    omega
  · show nd q.2 + nd 1 ≤ _
    rw [nd_1]; omega
  · show q.2 * 1 ≠ 0
    omega
def OrdPost (w : World) (M : Mx) (c : Nat) (x : List Int) (e : Ending) (w' : World) : Prop :=
  ∃ H, HnfOf c M H ∧ Ext w w' ∧ ∃ (s : List (Int × Int)) (k : Nat), ordF H (x.map fun z => (z, (1 : Int))) 1 = (s, k) ∧
    (if anyB (fun i => decide ((s.getD i (0, 1)).1 ≠ 0)) s.length = true then e = .returned (.tuple #[.int .i64 0, .bool false, .int .i64 0])
     else if smallB [(k : Int)] = true then e = .returned (.tuple #[.int .i64 k, .bool true, .int .i64 0])
     else e = .returned (.tuple #[.int .i64 0, .bool false, .int .i64 4]))
end Go.Proofs.YtokjolmpdfmnbaaGreatDoor
namespace Go.Proofs.YtokjolmpdfmnbaaGreatDoor
def qval (q : Int × Int) : Rat := (q.1 : Rat) / (q.2 : Rat)
theorem qg_dvd (n d : Int) : ((qg n d : Nat) : Int) ∣ n ∧ ((qg n d : Nat) : Int) ∣ d := by
  unfold qg
  exact ⟨Int.ofNat_dvd_left.2 (Nat.gcd_dvd_left _ _), Int.ofNat_dvd_left.2 (Nat.gcd_dvd_right _ _)⟩
theorem qmk_val {n d : Int} (hd : d ≠ 0) : qval (qmk n d) = (n : Rat) / (d : Rat) ∧ 0 < (qmk n d).2 := by
  refine ⟨?_, qd_pos hd⟩
  obtain ⟨⟨a, ha⟩, ⟨b, hb⟩⟩ := qg_dvd n d
  have hg := qg_pos (n := n) hd
  have hgz : ((qg n d : Nat) : Int) ≠ 0 := by omega
  have hb0 : b ≠ 0 := fun e => hd (by rw [hb, e, Int.mul_zero])
  unfold qval qmk qn qd
  generalize ((qg n d : Nat) : Int) = g at *
  subst ha hb
  have r0 : (g : Rat) ≠ 0 := by exact_mod_cast hgz
  have r1 : (b : Rat) ≠ 0 := by exact_mod_cast hb0
  by_cases hs : g * b < 0
  · rw [if_pos hs, show (((g * b).natAbs : Nat) : Int) = g * (-b) by rw [Int.mul_neg]; omega, ← Int.mul_neg, Int.mul_ediv_cancel_left _ hgz, Int.mul_ediv_cancel_left _ hgz]
    simp only [Rat.intCast_mul, Rat.intCast_neg]
    grind
  · rw [if_neg hs, show (((g * b).natAbs : Nat) : Int) = g * b by omega, Int.mul_ediv_cancel_left _ hgz, Int.mul_ediv_cancel_left _ hgz]
    simp only [Rat.intCast_mul]
    grind
def QOk (q : Int × Int) : Prop := 0 < q.2 ∧ Int.gcd q.1 q.2 = 1
theorem qmk_ok {n d : Int} (hd : d ≠ 0) : QOk (qmk n d) := by
  refine ⟨qd_pos hd, ?_⟩
  have hg := qg_pos (n := n) hd
  have h1 : ((qn n d).natAbs) = n.natAbs / qg n d := by
    unfold qn
    by_cases hs : d < 0
    · rw [if_pos hs, Int.natAbs_ediv_of_dvd (Int.dvd_neg.2 (qg_dvd n d).1)]; simp
    · rw [if_neg hs, Int.natAbs_ediv_of_dvd (qg_dvd n d).1]; simp
  have h2 : (qd n d).natAbs = d.natAbs / qg n d := by
    unfold qd
    rw [← Int.natCast_ediv, Int.natAbs_natCast]
  show Nat.gcd (qn n d).natAbs (qd n d).natAbs = 1
  rw [h1, h2]
  unfold qg at hg ⊢
  exact Nat.coprime_div_gcd_div_gcd hg
theorem qok_whole {q : Int × Int} (h : QOk q) (m : Int) : (∃ t : Int, (m : Rat) * qval q = (t : Rat)) ↔ q.2 ∣ m := by
  obtain ⟨h1, h2⟩ := h
  have r : (q.2 : Rat) ≠ 0 := by exact_mod_cast (show q.2 ≠ 0 by omega)
  constructor
  · rintro ⟨t, ht⟩
    unfold qval at ht
    have e : (m : Rat) * (q.1 : Rat) = (t : Rat) * (q.2 : Rat) := by grind
    have e2 : m * q.1 = t * q.2 := by exact_mod_cast e
    have : q.2 ∣ q.1 * m := ⟨t, by rw [Int.mul_comm, e2, Int.mul_comm]⟩
    have n1 : q.2.natAbs ∣ q.1.natAbs * m.natAbs := by rw [← Int.natAbs_mul]; exact Int.natAbs_dvd_natAbs.2 this
    have n2 : Nat.Coprime q.2.natAbs q.1.natAbs := by
      show Nat.gcd _ _ = 1
      rw [Nat.gcd_comm]; exact h2
    exact Int.natAbs_dvd_natAbs.1 (n2.dvd_of_dvd_mul_left n1)
  · rintro ⟨t, rfl⟩
    refine ⟨t * q.1, ?_⟩
    unfold qval
    simp only [Rat.intCast_mul]
    grind
theorem qmul_val {a b : Int × Int} (ha : a.2 ≠ 0) (hb : b.2 ≠ 0) : qval (qmul a b) = qval a * qval b := by
  unfold qmul
  rw [(qmk_val (Int.mul_ne_zero ha hb)).1]
  have r0 : (a.2 : Rat) ≠ 0 := by exact_mod_cast ha
  have r1 : (b.2 : Rat) ≠ 0 := by exact_mod_cast hb
  unfold qval
  simp only [Rat.intCast_mul]
  grind
theorem qsub_val {a b : Int × Int} (ha : a.2 ≠ 0) (hb : b.2 ≠ 0) : qval (qsub a b) = qval a - qval b := by
  unfold qsub
  rw [(qmk_val (Int.mul_ne_zero ha hb)).1]
  have r0 : (a.2 : Rat) ≠ 0 := by exact_mod_cast ha
  have r1 : (b.2 : Rat) ≠ 0 := by exact_mod_cast hb
  unfold qval
  simp only [Rat.intCast_mul, Rat.intCast_sub]
  grind
theorem qdiv_val {a b : Int × Int} (ha : a.2 ≠ 0) (hb : b.2 ≠ 0) (hb1 : b.1 ≠ 0) : qval (qdiv a b) = qval a / qval b := by
  unfold qdiv
  rw [(qmk_val (Int.mul_ne_zero ha hb1)).1]
  have r0 : (a.2 : Rat) ≠ 0 := by exact_mod_cast ha
  have r1 : (b.2 : Rat) ≠ 0 := by exact_mod_cast hb
  have r2 : (b.1 : Rat) ≠ 0 := by exact_mod_cast hb1
  unfold qval
  simp only [Rat.intCast_mul]
  grind
def sv (s : List (Int × Int)) (k : Nat) : Rat := qval (s.getD k (0, 1))
def QPos (s : List (Int × Int)) : Prop := ∀ k, 0 < (s.getD k (0, 1)).2
def combQ : Mx → List (Int × Int) → Nat → Rat
  | r :: H, q :: cs, j => qval q * ((r.getD j 0 : Int) : Rat) + combQ H cs j
  | _, _, _ => 0
theorem qval_int (z : Int) : qval (z, 1) = (z : Rat) := by unfold qval; simp only; rw [show ((1 : Int) : Rat) = 1 from rfl]; grind
theorem ordTo_getD (r : List Int) (q : Int × Int) (s : List (Int × Int)) (j : Nat) : (ordTo r q s s.length).getD j (0, 1) = if j < s.length then ordI r q s j else (0, 1) := by
  unfold ordTo
  rw [List.drop_length, List.append_nil, List.getD_eq_getElem?_getD]
  by_cases h : j < s.length
  · rw [if_pos h]; simp [h]
  · rw [if_neg h, List.getElem?_eq_none (by simpa using h)]; rfl
theorem ordTo_val {r : List Int} {q : Int × Int} {s : List (Int × Int)} (hr : r.length = s.length) (hs : QPos s) (hq : q.2 ≠ 0) : QPos (ordTo r q s s.length) ∧ ∀ j, sv (ordTo r q s s.length) j = sv s j - qval q * ((r.getD j 0 : Int) : Rat) := by
  have m0 : ∀ j, (qmul q (r.getD j 0, 1)).2 ≠ 0 := fun j => by
    have := qd_pos (n := q.1 * r.getD j 0) (d := q.2 * 1) (by rw [Int.mul_one]; exact hq)
    exact Ne.symm (Int.ne_of_lt this)
  refine ⟨fun j => ?_, fun j => ?_⟩
  · rw [ordTo_getD]
    split
    · have := hs j
      exact qd_pos (Int.mul_ne_zero (by omega) (m0 j))
    · show (0 : Int) < 1; omega
  · unfold sv
    rw [ordTo_getD]
    by_cases h : j < s.length
    · rw [if_pos h]
      have := hs j
      unfold ordI
      rw [qsub_val (by omega) (m0 j), qmul_val hq (by show (1 : Int) ≠ 0; omega), qval_int]
    · rw [if_neg h]
      have e1 : s.getD j (0, 1) = (0, 1) := by rw [List.getD_eq_getElem?_getD, List.getElem?_eq_none (by omega)]; rfl
      have e2 : r.getD j 0 = 0 := by rw [List.getD_eq_getElem?_getD, List.getElem?_eq_none (by omega)]; rfl
      rw [e1, e2, qval_int]
      rw [show ((0 : Int) : Rat) = 0 from rfl]
      grind
def Echl : Mx → Prop
  | [] => True
  | r :: H => r.getD (pv r) 0 ≠ 0 ∧ (∀ x ∈ H, x.getD (pv r) 0 = 0) ∧ Echl H
theorem combQ_zero {j : Nat} : ∀ (H : Mx) (cs : List (Int × Int)), (∀ x ∈ H, x.getD j 0 = 0) → combQ H cs j = 0
  | [], _, _ => rfl
  | _ :: _, [], _ => rfl
  | r :: H, q :: cs, h => by
    show qval q * ((r.getD j 0 : Int) : Rat) + combQ H cs j = 0
    rw [h r (by simp), combQ_zero H cs (fun x hx => h x (by simp [hx])), show ((0 : Int) : Rat) = 0 from rfl]
    grind
theorem ordF_law {n : Nat} : ∀ (H : Mx) (s : List (Int × Int)) (k : Nat), (∀ r ∈ H, r.length = n) → Echl H → s.length = n → QPos s →
    ∃ cs : List (Int × Int), cs.length = H.length ∧ (∀ q ∈ cs, QOk q) ∧ (∀ j, sv (ordF H s k).1 j = sv s j - combQ H cs j) ∧ (ordF H s k).2 = cs.foldl (fun k q => Nat.lcm k q.2.natAbs) k ∧ (ordF H s k).1.length = n ∧ QPos (ordF H s k).1
      ∧ ∀ r ∈ H, sv (ordF H s k).1 (pv r) = 0
  | [], s, k, _, _, hl, hs => ⟨[], rfl, (fun q hq => by cases hq), (fun j => by show sv s j = sv s j - 0; grind), rfl, hl, hs, fun r hr => by cases hr⟩
  | r :: H, s, k, hr, he, hl, hs => by
    have r1 := hr r (by simp)
    obtain ⟨r2, r3, r4⟩ := he
    have hsp := hs (pv r)
    have hq : QOk (ordQ r s) := by
      unfold ordQ qdiv
      exact qmk_ok (Int.mul_ne_zero (by omega) r2)
    have hq0 : (ordQ r s).2 ≠ 0 := by have := hq.1; omega
    obtain ⟨p1, p2⟩ := ordTo_val (r := r) (q := ordQ r s) (s := s) (by omega) hs hq0
    obtain ⟨cs, c1, c2, c3, c4, c5, c6, c7⟩ := ordF_law H (ordTo r (ordQ r s) s s.length) (Nat.lcm k (ordQ r s).2.natAbs) (fun x hx => hr x (by simp [hx])) r4 (by rw [ordTo_length _ _ _ (Nat.le_refl _)]; exact hl) p1
    have hqv : qval (ordQ r s) = sv s (pv r) / ((r.getD (pv r) 0 : Int) : Rat) := by
      unfold ordQ
      rw [qdiv_val (by omega) (by show (1 : Int) ≠ 0; omega) r2, qval_int]; rfl
    refine ⟨ordQ r s :: cs, by simp [c1], fun q hq' => ?_, fun j => ?_, ?_, c5, c6, fun x hx => ?_⟩
    · rcases List.mem_cons.1 hq' with rfl | h
      · exact hq
      · exact c2 q h
    · show sv (ordF H _ _).1 j = sv s j - (qval (ordQ r s) * _ + combQ H cs j)
      rw [c3, p2]; grind
    · show (ordF H _ _).2 = _
      rw [c4]; rfl
    · show sv (ordF H _ _).1 (pv x) = 0
      rcases List.mem_cons.1 hx with rfl | hx
      · rw [c3, p2, hqv, combQ_zero H cs r3]
        have : ((x.getD (pv x) 0 : Int) : Rat) ≠ 0 := by exact_mod_cast r2
        grind
      · exact c7 x hx
def combF : Mx → (Nat → Rat) → Nat → Rat
  | [], _, _ => 0
  | r :: H, f, j => f 0 * ((r.getD j 0 : Int) : Rat) + combF H (fun i => f (i + 1)) j
theorem combQ_F {j : Nat} : ∀ (H : Mx) (cs : List (Int × Int)), cs.length = H.length → combQ H cs j = combF H (fun i => qval (cs.getD i (0, 1))) j
  | [], _, _ => rfl
  | _ :: _, [], h => by simp at h
  | r :: H, q :: cs, h => by
    show qval q * ((r.getD j 0 : Int) : Rat) + combQ H cs j = _
    rw [combQ_F H cs (by simpa using h)]; rfl
theorem combF_zero {j : Nat} : ∀ (H : Mx) (f : Nat → Rat), (∀ x ∈ H, x.getD j 0 = 0) → combF H f j = 0
  | [], _, _ => rfl
  | r :: H, f, h => by
    show f 0 * ((r.getD j 0 : Int) : Rat) + combF H _ j = 0
    rw [h r (by simp), combF_zero H _ (fun x hx => h x (by simp [hx])), show ((0 : Int) : Rat) = 0 from rfl]
    grind
theorem combF_uni : ∀ (H : Mx) (f : Nat → Rat), Echl H → (∀ r ∈ H, combF H f (pv r) = 0) → ∀ i, i < H.length → f i = 0
  | [], _, _, _, i, hi => absurd hi (by simp)
  | r :: H, f, he, h, i, hi => by
    obtain ⟨r2, r3, r4⟩ := he
    have h0 : f 0 = 0 := by
      have := h r (by simp)
      change f 0 * ((r.getD (pv r) 0 : Int) : Rat) + combF H _ (pv r) = 0 at this
      rw [combF_zero H _ r3] at this
      have r5 : ((r.getD (pv r) 0 : Int) : Rat) ≠ 0 := by exact_mod_cast r2
      grind
    rcases i with _ | i
    · exact h0
    · refine combF_uni H (fun i => f (i + 1)) r4 (fun x hx => ?_) i (by simpa using hi)
      have := h x (by simp [hx])
      change f 0 * ((r.getD (pv x) 0 : Int) : Rat) + combF H _ (pv x) = 0 at this
      rw [h0] at this
      grind
theorem combF_sub {j : Nat} : ∀ (H : Mx) (f g : Nat → Rat), combF H f j - combF H g j = combF H (fun i => f i - g i) j
  | [], _, _ => by show (0 : Rat) - 0 = 0; grind
  | r :: H, f, g => by
    show (f 0 * ((r.getD j 0 : Int) : Rat) + combF H _ j) - (g 0 * ((r.getD j 0 : Int) : Rat) + combF H _ j) = (f 0 - g 0) * _ + combF H _ j
    rw [← combF_sub H (fun i => f (i + 1)) (fun i => g (i + 1))]
    grind
theorem combF_mul {j : Nat} (m : Rat) : ∀ (H : Mx) (f : Nat → Rat), m * combF H f j = combF H (fun i => m * f i) j
  | [], _ => by show m * 0 = 0; grind
  | r :: H, f => by
    show m * (f 0 * ((r.getD j 0 : Int) : Rat) + combF H _ j) = (m * f 0) * _ + combF H _ j
    rw [← combF_mul m H (fun i => f (i + 1))]
    grind
theorem combF_congr {j : Nat} : ∀ (H : Mx) (f g : Nat → Rat), (∀ i, i < H.length → f i = g i) → combF H f j = combF H g j
  | [], _, _, _ => rfl
  | r :: H, f, g, h => by
    show f 0 * _ + combF H _ j = g 0 * _ + combF H _ j
    rw [h 0 (by simp), combF_congr H (fun i => f (i + 1)) (fun i => g (i + 1)) (fun i hi => h (i + 1) (by simpa using hi))]
theorem sumZ_shift (f : Nat → Int) : ∀ n, sumZ f (n + 1) = f 0 + sumZ (fun i => f (i + 1)) n
  | 0 => by simp [sumZ]
  | n + 1 => by
    rw [sumZ, sumZ_shift f n, sumZ]
    omega
theorem cmb_F (j : Nat) : ∀ (H : Mx) (y : Nat → Int), ((cmb H y j : Int) : Rat) = combF H (fun i => (y i : Rat)) j
  | [], y => by simp [cmb, sumZ, combF]
  | r :: H, y => by
    have e : cmb (r :: H) y j = y 0 * r.getD j 0 + cmb H (fun i => y (i + 1)) j := by
      unfold cmb
      rw [List.length_cons, sumZ_shift]; rfl
    rw [e, Rat.intCast_add, Rat.intCast_mul, cmb_F j H (fun i => y (i + 1))]
    rfl
theorem echl_of : ∀ (H : Mx), (∀ i, i < H.length → (H.getD i []).getD (pv (H.getD i [])) 0 ≠ 0) → (∀ i k, i < k → k < H.length → (H.getD k []).getD (pv (H.getD i [])) 0 = 0) → Echl H
  | [], _, _ => trivial
  | r :: H, h1, h2 => ⟨h1 0 (by simp), fun x hx => by
      obtain ⟨k, hk, rfl⟩ := List.getElem_of_mem hx
      have := h2 0 (k + 1) (by omega) (by simpa using hk)
      rwa [show (r :: H).getD (k + 1) [] = H[k] by rw [List.getD_eq_getElem?_getD, List.getElem?_cons_succ, List.getElem?_eq_getElem hk]; rfl] at this,
    echl_of H (fun i hi => h1 (i + 1) (by simpa using hi)) (fun i k hik hk => h2 (i + 1) (k + 1) (by omega) (by simpa using hk))⟩
theorem isH_echl {n : Nat} {ps : List Nat} {H : Mx} (hI : IsH n ps H) : Echl H := by
  refine echl_of H hI.piv fun i k hik hk => ?_
  have := hI.left k hk (ps.getD i 0) (hI.inc i k hik hk)
  rwa [hI.pvs (by omega)] at this
theorem lcm_dvd_iff {m : Int} : ∀ (cs : List (Int × Int)) (k : Nat), (((cs.foldl (fun k q => Nat.lcm k q.2.natAbs) k : Nat) : Int) ∣ m ↔ (k : Int) ∣ m ∧ ∀ q ∈ cs, q.2 ∣ m)
  | [], k => by simp
  | q :: cs, k => by
    rw [List.foldl_cons, lcm_dvd_iff cs]
    have e : ((Nat.lcm k q.2.natAbs : Nat) : Int) ∣ m ↔ (k : Int) ∣ m ∧ q.2 ∣ m := by
      rw [Int.ofNat_dvd_left, Int.ofNat_dvd_left, ← Int.natAbs_dvd_natAbs]
      exact ⟨fun h => ⟨Nat.dvd_trans (Nat.dvd_lcm_left _ _) h, Nat.dvd_trans (Nat.dvd_lcm_right _ _) h⟩, fun h => Nat.lcm_dvd h.1 h.2⟩
    rw [e]
    simp only [List.mem_cons, forall_eq_or_imp]
    exact ⟨fun h => ⟨h.1.1, h.1.2, h.2⟩, fun h => ⟨⟨h.1, h.2.1⟩, h.2.2⟩⟩
theorem sv_int (x : List Int) (j : Nat) : sv (x.map fun z => (z, (1 : Int))) j = ((vr x j : Int) : Rat) := by
  unfold sv vr
  rw [List.getD_eq_getElem?_getD, List.getD_eq_getElem?_getD, List.getElem?_map]
  rcases x[j]? with _ | z
  · exact qval_int 0
  · exact qval_int z
theorem qval_zero {q : Int × Int} (h : 0 < q.2) : qval q = 0 ↔ q.1 = 0 := by
  unfold qval
  have r : (q.2 : Rat) ≠ 0 := by exact_mod_cast (show q.2 ≠ 0 by omega)
  constructor
  · intro e
    have : (q.1 : Rat) = 0 := by grind
    exact_mod_cast this
  · intro e
    rw [e, show ((0 : Int) : Rat) = 0 from rfl]; grind
theorem ord_lat {n : Nat} {ps : List Nat} {H : Mx} (hI : IsH n ps H) {x : List Int} (hx : x.length = n) {s : List (Int × Int)} {k : Nat} (h : ordF H (x.map fun z => (z, (1 : Int))) 1 = (s, k)) :
    s.length = n ∧ ((∀ j, (s.getD j (0, 1)).1 = 0) → ∀ m : Int, Hnf.Span (latM H) (fun j => m * vr x j) ↔ (k : Int) ∣ m) ∧ ((¬ ∀ j, (s.getD j (0, 1)).1 = 0) → ∀ m : Int, m ≠ 0 → ¬ Hnf.Span (latM H) (fun j => m * vr x j)) := by
  have hE := isH_echl hI
  obtain ⟨cs, c1, c2, c3, c4, c5, c6, c7⟩ := ordF_law H (x.map fun z => (z, (1 : Int))) 1 hI.rect hE (by simpa using hx) (fun j => by
    rw [List.getD_eq_getElem?_getD, List.getElem?_map]
    rcases x[j]? with _ | z <;> simp)
  rw [h] at c3 c4 c5 c6 c7
  simp only at c3 c4 c5 c6 c7
  have hv : ∀ j, ((vr x j : Int) : Rat) = sv s j + combF H (fun i => qval (cs.getD i (0, 1))) j := fun j => by
    have := c3 j
    rw [sv_int, combQ_F H cs c1] at this
    grind
  have hc : ∀ i, i < H.length → QOk (cs.getD i (0, 1)) := fun i hi => by
    rw [getD_get (show i < cs.length by omega)]; exact c2 _ (List.getElem_mem _)
  refine ⟨c5, fun h0 m => ?_, fun h0 m hm hs => h0 fun j => ?_⟩
  · have hz : ∀ j, sv s j = 0 := fun j => (qval_zero (c6 j)).2 (h0 j)
    rw [c4, lcm_dvd_iff, span_cmb]
    constructor
    · rintro ⟨y, hy⟩
      refine ⟨Int.one_dvd _, fun q hq => ?_⟩
      obtain ⟨i, hi, rfl⟩ := List.getElem_of_mem hq
      have hu := combF_uni H (fun i => (m : Rat) * qval (cs.getD i (0, 1)) - (y i : Rat)) hE (fun r hr => by
        rw [← combF_sub H (fun i => (m : Rat) * qval (cs.getD i (0, 1))) (fun i => (y i : Rat)), ← combF_mul, ← cmb_F, ← hy]
        have := hv (pv r)
        rw [hz] at this
        rw [Rat.intCast_mul, this]
        grind) i (by omega)
      have hq := (qok_whole (hc i (by omega)) m).1 ⟨y i, by grind⟩
      rwa [getD_get hi] at hq
    · rintro ⟨_, hd⟩
      have ht : ∀ i, ∃ t : Int, i < H.length → (m : Rat) * qval (cs.getD i (0, 1)) = (t : Rat) := fun i => by
        by_cases hi : i < H.length
        · obtain ⟨t, ht⟩ := (qok_whole (hc i hi) m).2 (by rw [getD_get (show i < cs.length by omega)]; exact hd _ (List.getElem_mem _))
          exact ⟨t, fun _ => ht⟩
        · exact ⟨0, fun a => absurd a hi⟩
      refine ⟨fun i => (ht i).choose, ?_⟩
      funext j
      have e : ((m * vr x j : Int) : Rat) = ((cmb H (fun i => (ht i).choose) j : Int) : Rat) := by
        rw [cmb_F, Rat.intCast_mul, hv, hz, ← combF_congr H (fun i => (m : Rat) * qval (cs.getD i (0, 1))) _ (fun i hi => (ht i).choose_spec hi), ← combF_mul]
        grind
      exact_mod_cast e
  · rw [span_cmb] at hs
    obtain ⟨y, hy⟩ := hs
    have r0 : (m : Rat) ≠ 0 := by exact_mod_cast hm
    have key : ∀ j, (m : Rat) * sv s j = combF H (fun i => (y i : Rat) - (m : Rat) * qval (cs.getD i (0, 1))) j := fun j => by
      rw [← combF_sub H (fun i => (y i : Rat)) (fun i => (m : Rat) * qval (cs.getD i (0, 1))), ← combF_mul, ← cmb_F, ← hy, Rat.intCast_mul, hv]
      grind
    have hu := combF_uni H (fun i => (y i : Rat) - (m : Rat) * qval (cs.getD i (0, 1))) hE (fun r hr => by
      rw [← key, c7 r hr]; grind)
    have : (m : Rat) * sv s j = 0 := by
      rw [key, combF_congr H _ (fun _ => 0) (fun i hi => hu i hi)]
      have := combF_mul (j := j) 0 H (fun _ => 0)
      have e : (fun i : Nat => (0 : Rat) * (fun _ => (0 : Rat)) i) = fun _ => 0 := by funext i; grind
      rw [e] at this
      rw [← this]; grind
    exact (qval_zero (c6 j)).1 (by show sv s j = 0; grind)
end Go.Proofs.YtokjolmpdfmnbaaGreatDoor
