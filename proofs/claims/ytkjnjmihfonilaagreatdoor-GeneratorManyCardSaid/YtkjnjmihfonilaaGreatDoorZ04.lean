/- Part 4, beside the shared parts, of the proof of the claim: contracts and plain laws; no condition. -/
import Derived.Test.YtkjnjmihfonilaaGreatDoorV01
import Derived.Test.YtkjnjmihfonilaaGreatDoorV02
import Derived.Test.YtkjnjmihfonilaaGreatDoorV03
import Derived.Test.YtkjnjmihfonilaaGreatDoorV04
import Derived.Test.YtkjnjmihfonilaaGreatDoorV05
import Derived.Test.YtkjnjmihfonilaaGreatDoorV06
import Derived.Test.YtkjnjmihfonilaaGreatDoorV07
import Derived.Test.YtkjnjmihfonilaaGreatDoorV08
import Derived.Test.YtkjnjmihfonilaaGreatDoorV09
import Derived.Test.YtkjnjmihfonilaaGreatDoorV10
import Derived.Test.YtkjnjmihfonilaaGreatDoorV11
import Derived.Test.YtkjnjmihfonilaaGreatDoorV12
import Derived.Test.YtkjnjmihfonilaaGreatDoorV13
import Derived.Test.YtkjnjmihfonilaaGreatDoorV14
import Derived.Test.YtkjnjmihfonilaaGreatDoorV15
import Derived.Test.YtkjnjmihfonilaaGreatDoorV16
import Derived.Test.YtkjnjmihfonilaaGreatDoorV17
import Derived.Test.YtkjnjmihfonilaaGreatDoorV18
import Derived.Test.YtkjnjmihfonilaaGreatDoorV19
import Derived.Test.YtkjnjmihfonilaaGreatDoorV20
import Derived.Test.YtkjnjmihfonilaaGreatDoorV21
import Derived.Test.YtkjnjmihfonilaaGreatDoorV22
import Derived.Test.YtkjnjmihfonilaaGreatDoorV23
import Derived.Test.YtkjnjmihfonilaaGreatDoorV24
import Derived.Test.YtkjnjmihfonilaaGreatDoorV25
import Derived.Test.YtkjnjmihfonilaaGreatDoorV26
import Derived.Test.YtkjnjmihfonilaaGreatDoorV27
import Derived.Test.YtkjnjmihfonilaaGreatDoorV28
import Derived.Test.YtkjnjmihfonilaaGreatDoorV29
import Derived.Test.YtkjnjmihfonilaaGreatDoorV30
import Derived.Test.YtkjnjmihfonilaaGreatDoorZ01
import Derived.Test.YtkjnjmihfonilaaGreatDoorZ02
import Derived.Test.YtkjnjmihfonilaaGreatDoorZ03
namespace Go.Proofs.YtkjnjmihfonilaaGreatDoor
open Go.RowKit Go.Sort
def DiaPost (w : World) (n c rank : Nat) (fin : Dg) (e : Ending) (w' : World) : Prop :=
  ∃ x aa al ar, e = .returned (.tuple #[.pointer (some ⟨x.p, 0, none⟩), .int .i64 rank]) ∧ WkR w.heap.size w' n c x aa al ar fin ∧ Ext w w'
theorem I_m1 : I (-1) = .string ⟨#[45, 49]⟩ := by
  unfold I S
  have h : Lib.itoa (-1) = [45, 49] := by
    unfold Lib.itoa
    simp
    rw [Lib.decDigits]; rfl
  rw [h]
def nxtD (t : Nat) (s2 : Dg) (ok : Bool) (sp : Option Nat) : Option (Nat × Dg) := if ok then (match sp with | some j => some (t, addD t j s2) | none => some (t + 1, posD t s2)) else some (t, s2)
theorem stepD_nxt {n c t i k : Nat} {s : Dg} (h : bestAll s.a t (c - t) (n - t) = some (i, k)) :
    stepD n c t s = nxtD t (clearD n c t (swapD t i k s)) (clearOk n c t (swapD t i k s)) (spoil (clearD n c t (swapD t i k s)).a t (c - (t + 1)) (n - (t + 1))) := by
  unfold stepD; rw [h]; rfl
theorem nxtD_some (t : Nat) (s2 : Dg) (ok : Bool) (sp : Option Nat) : ∃ q, nxtD t s2 ok sp = some q := by
  unfold nxtD
  cases ok
  · exact ⟨_, rfl⟩
  · cases sp <;> exact ⟨_, rfl⟩
theorem GrX.mem_lt {B : Nat} {w : World} {v : Value} {F : Mx} {ad : List (Nat × Nat)} {m : Nat} (h : GrX B w v F ad) (hR : Rect m F) (hm : 0 < m) : ∀ y ∈ ad, B ≤ y.1 ∧ y.1 < w.heap.size := fun y hy => by
  obtain ⟨i, hi, rfl⟩ := List.getElem_of_mem hy
  have hi' : i < F.length := by rw [← h.len]; exact hi
  exact h.lt i hi hi' (by rw [hR _ (List.getElem_mem hi')]; exact hm)
set_option maxRecDepth 100000 in
set_option maxHeartbeats 4000000 in
theorem diagonal_any {w : World} {v : Value} {M : Mx} {c f rank E : Nat} {fin : Dg} (hM : MatR w v M) (hR : Rect c M) (h0 : 0 < M.length) (hc0 : 0 < c) (hl : M.length ≤ 1000) (hc : c ≤ 1000) (hent : ∀ r ∈ M, ∀ z ∈ r, -1000000000 ≤ z ∧ z ≤ 1000000000)
    (hrun : runD E M.length c f 0 (startD M c) = some (rank, fin)) (hE : 2 * (4 * E + 3) + 2 < LIM) (hE1 : 1 ≤ E) (hL : Laid w) : Calls Tryz.prog 139 #[v] w (DiaPost w M.length c rank fin) := by
  obtain ⟨sa, gb, go, cp, vs, hv, hcp, hvl, hS, hr⟩ := id hM
  obtain ⟨sr, br, or, cr, hrow, _, _⟩ := MatR.row hS hvl hr h0
  have hrc : M[0].length = c := hR _ (List.getElem_mem h0)
  rw [hrc, Nat.add_zero] at hrow
  have hbig := Lib.hid (sbig_any (w := w) hM (by omega) (fun r hr => by rw [hR r hr]; omega) (fun r hr z hz => by have := hent r hr z hz; unfold I64; omega) hL)
  subst hv
  obtain rfl := hS.addr (by omega)
  obtain ⟨n, hn⟩ : ∃ n, n = M.length := ⟨_, rfl⟩
  have hun := Lib.hid (fun W => sunit_any (w := W) (n := n) (by omega))
  have huc := Lib.hid (fun W => sunit_any (w := W) (n := c) (by omega))
  have HR := Lib.hid hR
  have Hn := Lib.hid hn
  have HE := Lib.hid hE
  have HL := Lib.hid hL
  have hn0 : 0 < n := by omega
  have hn1 : n ≤ 1000 := by omega
  have hnI : (0 : Int) < (n : Int) := by omega
  rw [← hn] at hrun hbig ⊢
  have Hrun := Lib.hid hrun
  clear hM hR hent hrun hE hL hvl hS hr hrc hn
  go_enter Tryz.func139, Tryz.ntmps139
  go_wp2_with fail
  refine hbig.out.mono ?_
  rintro e w1 ⟨v1, ad1, rfl, hG1, hX1⟩
  go_wp2_with fail
  refine (hun.out w1).mono ?_
  rintro e w2 ⟨v2, ad2, rfl, hG2, hX2⟩
  obtain ⟨ga, ca, rfl, hca, hs1⟩ := hG1.shape
  obtain ⟨g1, rfl⟩ := hs1 (by rw [← Hn.out]; exact hn0)
  obtain ⟨gl, cl, rfl, hcl, hs2⟩ := hG2.shape
  obtain ⟨g2, rfl⟩ := hs2 (by rw [unitM_length]; exact hn0)
  rw [← Hn.out] at hca ⊢
  rw [unitM_length] at hcl ⊢
  have HG1 := Lib.hid hG1
  have HG2 := Lib.hid hG2
  have hb1 := hG1.outer.lt
  have hb2 := hG2.outer.lt
  have hrow1 := (hX1.trans hX2).cell hrow
  have hgb := World.block_lt_of_cell? _ _ hrow1
  clear hG1 hG2 hbig hun
  go_wp2_with fail
  obtain ⟨W3, hW3⟩ : ∃ W3, W3 = w2.alloc (.cells #[slv g1 n ca, slv g2 n cl, .slice none 0 0, .int .i64 c] 195) := ⟨_, rfl⟩
  have c0 : W3.cell? ⟨w2.heap.size, 0, none⟩ = some (slv g1 n ca) := by rw [hW3]; go_simp
  have c1 : W3.cell? ⟨w2.heap.size, 1, none⟩ = some (slv g2 n cl) := by rw [hW3]; go_simp
  have c2 : W3.cell? ⟨w2.heap.size, 2, none⟩ = some (.slice none 0 0) := by rw [hW3]; go_simp
  have c3 : W3.cell? ⟨w2.heap.size, 3, none⟩ = some (.int .i64 c) := by rw [hW3]; go_simp
  have fz : W3.frozen? ⟨w2.heap.size, 2, none⟩ = false := by rw [hW3]; go_simp
  have hX3 : Ext w2 W3 := by
    rw [hW3]; exact (Ext.refl w2).alloc _
  have hs3 : w2.heap.size < W3.heap.size := by rw [hW3]; simp
  rw [← hW3]
  clear hW3 hrow1 hgb hrow
  refine (huc.out W3).mono ?_
  rintro e w4 ⟨v4, ad4, rfl, hG4, hX4⟩
  obtain ⟨gr, cr4, rfl, hcr4, hs4⟩ := hG4.shape
  obtain ⟨g4, rfl⟩ := hs4 (by rw [unitM_length]; exact hc0)
  rw [unitM_length] at hcr4 ⊢
  have d0 := hX4.cell c0
  have d1 := hX4.cell c1
  have d2 := hX4.cell c2
  have d3 := hX4.cell c3
  have fz4 : w4.frozen? ⟨w2.heap.size, 2, none⟩ = false := (Ext.frozen (a := W3) (b := w4) hX4 (by exact hs3)).trans fz
  have hX14 := (hX1.trans hX2).trans (hX3.trans hX4)
  have HG4 := Lib.hid hG4
  clear hG4 huc c0 c1 c2 c3 fz
  go_wp2_with fail
  obtain ⟨p, hp⟩ : ∃ p, p = w2.heap.size := ⟨_, rfl⟩
  have hsz4 := hX4.size
  have hG5 : w4.grownBy (w4.setCell ⟨w2.heap.size, 2, none⟩ (slv g4 c cr4)) (some w2.heap.size) := grown_set _ _ _ _
  have hrk := Lib.hid (show WkR w.heap.size (w4.setCell ⟨w2.heap.size, 2, none⟩ (slv g4 c cr4)) n c ⟨w2.heap.size, g1, ca, g2, cl, g4, cr4⟩ ad1 ad2 ad4 (startD M c) by
    have a1 := HG1.out.outer.lt
    have a2 := HG2.out.outer.lt
    have a4 := HG4.out.outer.lt
    have s1 := hX1.size
    have s2 := hX2.size
    have s3 := hX3.size
    have m1 := HG1.out.mem_lt HR.out hc0
    have m2 := HG2.out.mem_lt (unitM_rect n) hn0
    have m4 := HG4.out.mem_lt (unitM_rect c) hc0
    have HG1' := (HG1.out.ext hX2).ext (hX3.trans hX4)
    have HG2' := (HG2.out.mono (B' := w.heap.size) s1).ext (hX3.trans hX4)
    rw [show unitM n = (startD M c).l by show unitM n = unitM M.length; rw [← Hn.out]] at HG2'
    have HG4' := HG4.out.mono (B' := w.heap.size) (by omega)
    refine ⟨?_, ?_, ?_, ?_, HG1'.keepG hG5 (by omega) (fun y hy => by have := m1 y hy; omega), HG2'.keepG hG5 (by omega) (fun y hy => by have := m2 y hy; omega), HG4'.keepG hG5 (by omega) (fun y hy => by have := m4 y hy; omega), Hn.out.symm, ?_, by simp [startD], HR.out, ?_, unitM_rect c, by show w.heap.size ≤ w2.heap.size; omega, ⟨by show w2.heap.size ≠ g1; omega, by show w2.heap.size ≠ g2; omega, by show w2.heap.size ≠ g4; omega⟩, ⟨fun y hy => by have := m1 y hy; show y.1 ≠ w2.heap.size; omega, fun y hy => by have := m2 y hy; show y.1 ≠ w2.heap.size; omega, fun y hy => by have := m4 y hy; show y.1 ≠ w2.heap.size; omega⟩, ⟨by show g1 ≠ g2; omega, by show g1 ≠ g4; omega, by show g2 ≠ g4; omega⟩, ⟨fun y hy z hz => by have := m1 y hy; have := m2 z hz; omega, fun y hy z hz => by have := m1 y hy; have := m4 z hz; omega, fun y hy z hz => by have := m2 y hy; have := m4 z hz; omega⟩⟩
    · rw [World.cell?_setCell_other (h := by simp)]; exact d0
    · rw [World.cell?_setCell_other (h := by simp)]; exact d1
    · rw [World.cell?_setCell_same (h := d2)]
    · rw [World.cell?_setCell_other (h := by simp)]; exact d3
    · show (unitM M.length).length = n
      rw [unitM_length, ← Hn.out]
    · show Rect n (unitM M.length)
      rw [← Hn.out]; exact unitM_rect n)
  have hX5 : Ext w (w4.setCell ⟨w2.heap.size, 2, none⟩ (slv g4 c cr4)) := ext_trans_grown hX14 hG5 (by have := hX1.size; have := hX2.size; omega)
  generalize hW5 : World.setCell w4 _ _ = W5 at *
  clear hW5 d0 d1 d2 d3 fz4 hG5 HG1 HG2 HG4
  rw [← hp] at hrk ⊢
  clear hp
  go_wp2_with fail
  go_loopg [5] f (fun k tv wr => ∃ (t : Nat) (s : Dg) (aa al : List (Nat × Nat)), tv = .int .i64 t ∧ t ≤ n ∧ t ≤ c ∧ Hid (WkR w.heap.size wr n c ⟨p, g1, ca, g2, cl, g4, cr4⟩ aa al ad4 s) ∧ Ext w wr ∧ Hid (runD E n c k t s = some (rank, fin)))
  case atStart => exact ⟨0, _, ad1, ad2, by go_num, by omega, by omega, hrk, hX5, Hrun⟩
  case round =>
    clear hrk Hrun
    obtain ⟨t, s, aa, al, rfl, htn, htc, hW, hE2, hK⟩ := hrel
    generalize wr = V at *
    obtain ⟨g, hkg, hbd, hst⟩ := runD_succ hK.out
    obtain ⟨bA, bL, bR⟩ := bdd_b hbd
    obtain ⟨b, hb⟩ : ∃ b, b = bestAll s.a t (c - t) (n - t) := ⟨_, rfl⟩
    have hlw := Lib.hid (least_w hW.out hc0 htn htc (by omega) (by omega) bA (by have := HE.out; omega))
    have hin := bestAll_in (A := s.a) (n := n) htc (n - t) (by omega)
    rw [← hb] at hlw hin
    have BA := Lib.hid bA
    have BL := Lib.hid bL
    have BR := Lib.hid bR
    have HEm := Lib.hid (show 2 * E + 2 < LIM by have := HE.out; omega)
    have Hkg := Lib.hid hkg
    clear bA bL bR hbd hkg
    cases b with
    | none =>
      have hsd : stepD n c t s = none := by unfold stepD; rw [← hb]
      have hR : (rank, fin) = (t, s) := by
        rcases hst with ⟨_, h⟩ | ⟨q, h, _⟩
        · exact h
        · rw [hsd] at h; cases h
      injection hR with hR1 hR2
      subst hR1 hR2
      clear hst hb hin hsd
      go_wp2_with fail
      refine hlw.out.mono ?_
      rintro e W1 ⟨rfl, hY1⟩
      try simp only [lrB, lcB, lfB]
      go_wp2_with fail
      go_ret2
      exact ⟨_, aa, al, ad4, rfl, hW.out.ext hY1, hE2.trans hY1⟩
    | some q =>
      obtain ⟨i, k⟩ := q
      obtain ⟨r1, r2, r3, r4, r5⟩ := hin (i, k) rfl
      simp only at r1 r2 r3 r4 r5
      have htn' : t < n := by omega
      have htc' : t < c := by omega
      obtain ⟨s1, hs1⟩ : ∃ s1, s1 = swapD t i k s := ⟨_, rfl⟩
      obtain ⟨s2, hs2⟩ : ∃ s2, s2 = clearD n c t s1 := ⟨_, rfl⟩
      obtain ⟨ok, hok⟩ : ∃ ok, ok = clearOk n c t s1 := ⟨_, rfl⟩
      obtain ⟨sp, hsp⟩ : ∃ sp, sp = spoil s2.a t (c - (t + 1)) (n - (t + 1)) := ⟨_, rfl⟩
      have hsd : stepD n c t s = nxtD t s2 ok sp := by rw [hsp, hok, hs2, hs1]; exact stepD_nxt hb.symm
      have hnx : ∃ q, nxtD t s2 ok sp = some q ∧ runD E n c g q.1 q.2 = some (rank, fin) := by
        rcases hst with ⟨h, _⟩ | h
        · obtain ⟨q, hq⟩ := nxtD_some t s2 ok sp
          rw [hsd, hq] at h; cases h
        · rw [hsd] at h; exact h
      obtain ⟨q, hq1, hq2⟩ := hnx
      have Hq1 := Lib.hid hq1
      have Hq2 := Lib.hid hq2
      have hb1 := swapD_b (t := t) (i := i) (k := k) BA.out BL.out BR.out hW.out.la hW.out.ll htn' r2
      have hp1 := swapD_piv hW.out.la hW.out.ra htn' r2 htc' r4
      rw [← hs1] at hb1 hp1
      have Hb1 := Lib.hid hb1
      have Hp1 := Lib.hid (show eM s1.a t t ≠ 0 by rw [hp1]; exact r5)
      have hsw := Lib.hid (fun W (hY : Ext V W) => swap_w (w0 := w) (w := W) (t := t) (row := i) (k := k) (hW.out.ext hY) hn0 hc0 htn' htc' r2 r4 (by omega) (by omega) (hE2.trans hY))
      rw [← hs1] at hsw
      have Hs2 := Lib.hid hs2
      have Hok := Lib.hid hok
      have Hsp := Lib.hid hsp
      clear hst hb hin hsd hq1 hq2 hb1 hp1 hs1 hs2 hok hsp r5
      go_wp2_with fail
      refine hlw.out.mono ?_
      rintro e W1 ⟨rfl, hY1⟩
      try simp only [lrB, lcB, lfB]
      go_wp2_with fail
      refine (hsw.out _ hY1).mono ?_
      rintro e W2 ⟨rfl, hW2, hE4⟩
      generalize sw2 aa (0, 0) t i = aa2 at *
      generalize sw2 al (0, 0) t i = al2 at *
      have hcl := Lib.hid (clear_w (E := E) hW2 htn' htc' (by omega) (by omega) Hb1.out.1 Hb1.out.2.1 Hb1.out.2.2 Hp1.out HE.out HL.out hE4)
      rw [← Hs2.out, ← Hok.out] at hcl
      have hb2 := clearD_b (E := E) Hb1.out.1 Hb1.out.2.1 Hb1.out.2.2 hW2.la hW2.ll hW2.ra htn' htc' Hp1.out
      rw [← Hs2.out] at hb2
      have Hb2 := Lib.hid hb2
      clear hW2 hsw hlw hb2 hW
      go_wp2_with fail
      refine hcl.out.mono ?_
      rintro e W3 ⟨rfl, hW3, hE5⟩
      have HW3 := Lib.hid hW3
      clear hW3 hcl
      cases ok
      · have Hq3 := Lib.hid (show q = (t, s2) by have := Hq1.out; simp [nxtD] at this; exact this.symm)
        clear Hq1
        go_wp2_with fail
        go_roundg g
        case measure => rw [Hkg.out]; omega
        case rel => exact ⟨t, s2, aa2, al2, rfl, by omega, by omega, HW3, hE5, Lib.hid (by have := Hq2.out; rw [Hq3.out] at this; exact this)⟩
      · have hsp := Lib.hid (spoiler_w (E := 4 * E + 3) HW3.out htn' htc' (by omega) (by omega) Hb2.out.1 (by rw [Hb2.out.2.2.2]; exact Hp1.out) HE.out (HL.out.ext hE5))
        rw [← Hsp.out] at hsp
        cases sp with
        | some j =>
          have hji := spoil_in Hsp.out.symm
          have hjn : j < n := by omega
          have hjI : (j : Int) < (n : Int) := by omega
          have htI : (t : Int) < (n : Int) := by omega
          have Hq3 := Lib.hid (show q = (t, addD t j s2) by have := Hq1.out; simp [nxtD] at this; exact this.symm)
          clear Hq1
          go_wp2_with fail
          refine hsp.out.mono ?_
          rintro e W4 ⟨rfl, hY4⟩
          try simp only [spI, spB]
          have hW4 := HW3.out.ext hY4
          have hE6 := hE5.trans hY4
          have hcA := hW4.c0
          have hcL := hW4.c1
          obtain ⟨gt, ct, eat, hmt, h1, o1, _, _⟩ := hW4.a.atM hW4.ra hc0 (by rw [hW4.la]; exact htn' : t < _)
          obtain ⟨gj, cj, eaj, _, h2, _, _, _⟩ := hW4.a.atM hW4.ra hc0 (by rw [hW4.la]; exact hjn : j < _)
          obtain ⟨gu, cu, elt, _, h3, _, _, _⟩ := hW4.l.atM hW4.rl hn0 (by rw [hW4.ll]; exact htn' : t < _)
          obtain ⟨gk, ck, elj, _, h4, _, _, _⟩ := hW4.l.atM hW4.rl hn0 (by rw [hW4.ll]; exact hjn : j < _)
          simp only at hcA hcL h1 h2 h3 h4
          have hm1 : ((-1 : Int)).natAbs < 2 ^ (4 * E + 3) := Nat.lt_of_lt_of_le (by decide : ((-1 : Int)).natAbs < 2 ^ 1) (Nat.pow_le_pow_right (by omega) (by omega))
          have htA := Lib.hid (fun W (hX : Ext W4 W) => takeA_w (w0 := w) (w := W) (E := 4 * E + 3) (q := -1) (hW4.ext hX) hc0 (by omega) htn' hjn (by omega) eat eaj (Hb2.out.1.at t) (Hb2.out.1.at j) hm1 HE.out HL.out (hE6.trans hX))
          have htL := Lib.hid (fun W (h2 : WkR w.heap.size W n c ⟨p, g1, ca, g2, cl, g4, cr4⟩ aa2 al2 ad4 { s2 with a := rowSub t j (-1) s2.a }) (hX : Ext w W) => takeL_w (w0 := w) (w := W) (E := 4 * E + 3) (q := -1) h2 (by omega) htn' hjn (by omega) elt elj (Hb2.out.2.1.at t) (Hb2.out.2.1.at j) hm1 HE.out HL.out hX)
          have hz49 := I_m1
          rw [hz49] at htA htL
          have hdl : Hid (g2 ≠ gt ∧ p ≠ gt) := Lib.hid ⟨Ne.symm (ne_outer hW4.l.outer o1), Ne.symm (hW4.pi.1 _ hmt)⟩
          have k1 := cell_regrown hcA
          have k2 := cell_regrown h1
          have k3 := cell_regrown h2
          clear hsp hm1 hz49 hmt o1 hW4 eat eaj elt elj
          go_wp2_with fail
          refine wp_region_quiet_tail 14 (by kernel_rfl) (by kernel_rfl) ?_
          simp only [List.take_succ_cons, List.take_zero, List.drop_succ_cons, List.drop_zero]
          repeat (go_big_quiet_step (fail))
          refine wpQuiet_nil ?_
          intro _ hw'
          obtain ⟨⟨dq, osq⟩, hw''⟩ := hw'
          subst hw''
          have hY5 := ext_regrown W4 dq osq
          clear k1 k2 k3
          generalize hW5 : grow (redrawn _ _) _ = W5 at *
          clear hW5
          go_wp2_with fail
          refine (htA.out _ hY5).mono ?_
          rintro e W7 ⟨rfl, hW7, hE7, hG7⟩
          have hC7 : Chg (fun k => k = gt) W5 W7 := Chg.of_grown hG7 rfl
          have d1 := hC7.cell hdl.out.2 (hY5.cell hcL)
          have d2 := hC7.cell hdl.out.1 (hY5.cell h3)
          have d3 := hC7.cell hdl.out.1 (hY5.cell h4)
          have HtL := Lib.hid (fun W (hX : Ext W7 W) => htL.out W (hW7.ext hX) (hE7.trans hX))
          have k1 := cell_regrown d1
          have k2 := cell_regrown d2
          have k3 := cell_regrown d3
          clear hC7 hG7 htA htL hW7
          go_wp2_with fail
          refine wp_region_quiet_tail 14 (by kernel_rfl) (by kernel_rfl) ?_
          simp only [List.take_succ_cons, List.take_zero, List.drop_succ_cons, List.drop_zero]
          repeat (go_big_quiet_step (fail))
          refine wpQuiet_nil ?_
          intro _ hw'
          obtain ⟨⟨dq, osq⟩, hw''⟩ := hw'
          subst hw''
          have hY8 := ext_regrown W7 dq osq
          clear k1 k2 k3
          generalize hW8 : grow (redrawn _ _) _ = W8 at *
          clear hW8
          go_wp2_with fail
          refine (HtL.out _ hY8).mono ?_
          rintro e W9 ⟨rfl, hW9, hE9, _⟩
          have HW9 := Lib.hid (show WkR w.heap.size W9 n c ⟨p, g1, ca, g2, cl, g4, cr4⟩ aa2 al2 ad4 (addD t j s2) from hW9)
          clear hW9 HtL
          go_wp2_with fail
          go_roundg g
          case measure => rw [Hkg.out]; omega
          case rel => exact ⟨t, addD t j s2, aa2, al2, rfl, by omega, by omega, HW9, hE9, Lib.hid (by have := Hq2.out; rw [Hq3.out] at this; exact this)⟩
        | none =>
          have htI : (t : Int) < (n : Int) := by omega
          have htcI : (t : Int) < (c : Int) := by omega
          have Hq3 := Lib.hid (show q = (t + 1, posD t s2) by have := Hq1.out; simp [nxtD] at this; exact this.symm)
          clear Hq1
          go_wp2_with fail
          refine hsp.out.mono ?_
          rintro e W4 ⟨rfl, hY4⟩
          try simp only [spI, spB]
          have hW4 := HW3.out.ext hY4
          have hE6 := hE5.trans hY4
          have hcA := hW4.c0
          obtain ⟨gt, ct, eat, hmt, h1, o1, _, hel⟩ := hW4.a.atM hW4.ra hc0 (by rw [hW4.la]; exact htn' : t < _)
          obtain ⟨gu, cu, elt, _, h3, _, _, _⟩ := hW4.l.atM hW4.rl hn0 (by rw [hW4.ll]; exact htn' : t < _)
          have hcL := hW4.c1
          have e1 := hel t htc'
          simp only at hcA h1 h3 hcL
          obtain ⟨z, hz⟩ : ∃ z, z = eM s2.a t t := ⟨_, rfl⟩
          rw [← hz] at e1
          have hz0 : z ≠ 0 := by rw [hz, Hb2.out.2.2.2]; exact Hp1.out
          have hdl : Hid (g2 ≠ gt ∧ p ≠ gt) := Lib.hid ⟨Ne.symm (ne_outer hW4.l.outer o1), Ne.symm (hW4.pi.1 _ hmt)⟩
          have HS := Lib.hid (fun W => Sign_any z W)
          have htA := Lib.hid (fun W (hX : Ext W4 W) => turnA_w (w0 := w) (w := W) (E := 4 * E + 3) (hW4.ext hX) hc0 (by omega) htn' eat (Hb2.out.1.at t) HE.out (hE6.trans hX))
          have htL := Lib.hid (fun W (h2 : WkR w.heap.size W n c ⟨p, g1, ca, g2, cl, g4, cr4⟩ aa2 al2 ad4 { s2 with a := rowNeg t s2.a }) (hX : Ext w W) => turnL_w (w0 := w) (w := W) (E := 4 * E + 3) h2 (by omega) htn' elt (Hb2.out.2.1.at t) HE.out hX)
          have HW4 := Lib.hid hW4
          have Hz := Lib.hid hz
          clear hsp hmt o1 hel hz eat hW4
          rcases Int.lt_or_gt_of_ne hz0 with hz1 | hz1
          · have hs1 : z.sign = -1 := Int.sign_eq_neg_one_of_neg hz1
            have Hpos := Lib.hid (show posD t s2 = ⟨rowNeg t s2.a, rowNeg t s2.l, s2.r⟩ by unfold posD; rw [if_pos (by rw [← Hz.out]; exact hz1)])
            rw [hs1] at HS
            clear hs1 hz1 hz0
            go_wp2_with fail
            refine (HS.out _).mono ?_
            rintro e W5 ⟨rfl, hY5⟩
            replace hcA := hY5.cell hcA
            replace h1 := hY5.cell h1
            replace h3 := hY5.cell h3
            replace hcL := hY5.cell hcL
            clear e1 HS
            go_wp2_with fail
            refine (htA.out _ hY5).mono ?_
            rintro e W6 ⟨rfl, hW6, hE7⟩
            have hcL6 := hW6.c1
            obtain ⟨gv, cv, elv, _, h4, _, _, _⟩ := hW6.l.atM hW6.rl hn0 (by rw [hW6.ll]; exact htn' : t < _)
            rw [elt] at elv
            injection elv with elv
            injection elv with e2 e3
            subst e2 e3
            simp only at hcL6 h4
            have HL6 := Lib.hid (htL.out W6 hW6 hE7)
            clear htA htL h3 hcL hW6 h1 hcA
            go_wp2_with fail
            refine HL6.out.mono ?_
            rintro e W7 ⟨rfl, hW7, hE8⟩
            have HW7 := Lib.hid (show WkR w.heap.size W7 n c ⟨p, g1, ca, g2, cl, g4, cr4⟩ aa2 al2 ad4 (posD t s2) by rw [Hpos.out]; exact hW7)
            clear hW7 HL6
            go_wp2_with fail
            go_roundg g
            case measure => rw [Hkg.out]; omega
            case rel => exact ⟨t + 1, posD t s2, aa2, al2, by go_num, by omega, by omega, HW7, hE8, Lib.hid (by have := Hq2.out; rw [Hq3.out] at this; exact this)⟩
          · have hs1 : z.sign = 1 := Int.sign_eq_one_of_pos hz1
            have Hpos := Lib.hid (show posD t s2 = s2 by unfold posD; rw [if_neg (by rw [← Hz.out]; omega)])
            rw [hs1] at HS
            clear hs1 hz1 hz0
            go_wp2_with fail
            refine (HS.out _).mono ?_
            rintro e W5 ⟨rfl, hY5⟩
            clear e1 HS
            go_wp2_with fail
            go_roundg g
            case measure => rw [Hkg.out]; omega
            case rel => exact ⟨t + 1, posD t s2, aa2, al2, by go_num, by omega, by omega, Lib.hid (by rw [Hpos.out]; exact HW4.out.ext hY5), hE6.trans hY5, Lib.hid (by have := Hq2.out; rw [Hq3.out] at this; exact this)⟩
end Go.Proofs.YtkjnjmihfonilaaGreatDoor
namespace Go.Proofs.YtkjnjmihfonilaaGreatDoor
open Go.RowKit Go.Sort
def diagL (rank : Nat) (A : Mx) : List Int := (List.range rank).map fun i => eM A i i
@[simp] theorem diagL_length (rank : Nat) (A : Mx) : (diagL rank A).length = rank := by simp [diagL]
theorem diagL_take {rank i : Nat} (A : Mx) (h : i < rank) : (diagL rank A).take (i + 1) = (diagL rank A).take i ++ [eM A i i] := by
  rw [List.take_succ_eq_append_getElem (by simpa using h)]
  simp [diagL]
def FacPost (w : World) (D : List Int) (e : Ending) (w' : World) : Prop :=
  (if smallB D then ∃ v, e = .returned (.tuple #[v, .int .i64 0]) ∧ RowV w.heap.size w' v D else e = .returned (.tuple #[.slice none 0 0, .int .i64 4])) ∧ Ext w w'
set_option maxRecDepth 100000 in
set_option maxHeartbeats 2000000 in
theorem Factors_any {w : World} {v : Value} {M : Mx} {c f rank E : Nat} {fin : Dg} (hM : MatR w v M) (hck : checkM M = 0) (h0 : 0 < M.length) (hc : c = ncols M) (hc0 : 0 < c)
    (hrun : runD E M.length c f 0 (startD M c) = some (rank, fin)) (hr1 : rank ≤ M.length) (hr2 : rank ≤ c) (hb : BM E fin.a) (hE : 2 * (4 * E + 3) + 2 < LIM) (hE1 : 1 ≤ E) (hL : Laid w) :
    Calls Tryz.prog 95 #[v] w (FacPost w (diagL rank fin.a)) := by
  obtain ⟨hl12, hn12, hRt, hent⟩ := checkM_ok hck
  rw [← hc] at hn12 hRt
  have hch := Lib.hid (tableCheck_any hM)
  rw [hck] at hch
  have hdg := Lib.hid (fun W (hW : Ext w W) => diagonal_any (hM.ext hW) hRt h0 hc0 (by omega) (by omega) hent hrun hE hE1 (hL.ext hW))
  obtain ⟨n, hn⟩ : ∃ n, n = M.length := ⟨_, rfl⟩
  rw [← hn] at hdg hr1 hl12 h0
  have HB := Lib.hid hb
  have HE := Lib.hid hE
  have HL := Lib.hid hL
  obtain ⟨sa, gb, go, cap, vs, rfl, hcap, hvl, hS, hr⟩ := hM
  rw [← hn] at hch ⊢
  rw [← hn] at hdg
  clear hck hRt hent hrun hb hE hE1 hL hc hn hvl hS hr hcap
  obtain ⟨D, hD⟩ : ∃ D, D = diagL rank fin.a := ⟨_, rfl⟩
  rw [← hD]
  have HD := Lib.hid hD
  clear hD
  go_enter Tryz.func95, Tryz.ntmps95
  go_wp2_with fail
  refine hch.out.mono ?_
  rintro e w1 ⟨rfl, hE1⟩
  go_wp2_with fail
  refine (hdg.out _ hE1).mono ?_
  rintro e w2 ⟨⟨p, ga, ca, gl, cl, gr, cr⟩, aa, al, ar, rfl, hW, hE2⟩
  have HW := Lib.hid hW
  have hE12 := hE1.trans hE2
  have hcA := hW.c0
  simp only at hcA
  clear hch hdg hW
  go_wp2_with fail
  go_loopw [7, 22] (fun lv idx wr => ∃ i : Nat, i ≤ rank ∧ idx = .int .i64 i ∧ Hid (IntsV w2.heap.size wr lv (D.take i)) ∧ Ext w2 wr) (fun _ idx _ => rank - (intOf idx).toNat)
  case atStart => exact ⟨0, by omega, by go_num, Lib.hid (IntsV.nil _ _), Ext.refl _⟩
  case round =>
    obtain ⟨i, hi, rfl, hO, hE3⟩ := hrel
    generalize wr = X at *
    have hcX := hE3.cell hcA
    by_cases hlt : i < rank
    · have hin : i < n := by omega
      have hii : (i : Int) < (rank : Int) := by omega
      have hinI : (i : Int) < (n : Int) := by omega
      have hicI : (i : Int) < (c : Int) := by omega
      obtain ⟨gx, cx, _, _, h1, _, _, hel⟩ := (HW.out.a.ext hE3).atM HW.out.ra hc0 (by rw [HW.out.la]; exact hin : i < _)
      have h2 := hel i (by omega)
      simp only at h1
      obtain ⟨z, hz⟩ : ∃ z, z = eM fin.a i i := ⟨_, rfl⟩
      rw [← hz] at h2
      have Hsn := Lib.hid (show D.take (i + 1) = D.take i ++ [z] by rw [HD.out, hz]; exact diagL_take _ hlt)
      have Hil := Lib.hid (show (D.take i).length = i by rw [List.length_take, HD.out, diagL_length]; omega)
      have hXs := hE3.size
      clear hz hel
      go_wp2_with (at_builtin; refine app_ints rfl _ _ rfl rfl (hO.out.ext ((Ext.refl _).alloc _)) rfl (b := X.heap.size) (z := z) (by go_simp) (by rw [Hil.out]; omega) (by simp; omega) ?_; intro gg cap2 w8 hO8 hB8 hG8; rw [Hil.out] at hO8 ⊢; rw [← Hsn.out] at hO8)
      have hE8 : Ext w2 w8 := Below.trans (hE3.alloc _) hB8
      have HO8 := Lib.hid hO8
      clear hG8 hB8 hO8
      go_wp2_with fail
      go_roundw
      case rel => exact ⟨i + 1, by omega, by go_num, HO8, hE8⟩
      case measure => simp [intOf] <;> omega
    · have hir : i = rank := by omega
      have hii : ¬ (i : Int) < (rank : Int) := by omega
      have hO2 := hO.out
      rw [hir, List.take_of_length_le (by rw [HD.out, diagL_length]; exact Nat.le_refl _)] at hO2
      obtain ⟨sa2, sb2, sc2, hlv, hsc, hS2⟩ := hO2.sl
      have hDl : D.length = rank := by rw [HD.out, diagL_length]
      have HDl := Lib.hid hDl
      have HDb := Lib.hid (show ∀ z ∈ D, nd z ≤ LIM from fun z hz => by
        rw [HD.out] at hz
        obtain ⟨t, _, rfl⟩ := List.mem_map.1 hz
        have := nd_lt2 (HB.out.el t t)
        have := HE.out
        omega)
      have hE23 := hE12.trans hE3
      have hsml := Lib.hid (fun W bx (hY : Ext X W) (hbx : W.cell? ⟨bx, 0, none⟩ = some (.slice sa2 D.length sc2)) =>
        ssmall_any (w := W) (v := .slice (some ⟨bx, 0, none⟩) 1 1) (M := [D]) ⟨_, bx, 0, 1, [.slice sa2 D.length sc2], rfl, Nat.le_refl _, rfl, ⟨fun _ => rfl, fun i x hx => by
          have : i = 0 := by have := (List.getElem?_eq_some_iff.1 hx).1; simp at this; omega
          subst this
          simp only [List.getElem?_cons_zero, Option.some.injEq] at hx
          rw [← hx]; exact hbx⟩, fun i a bb' => by
          have : i = 0 := by simp at a; omega
          subst this
          exact ⟨sa2, sb2, 0, sc2, rfl, hsc, hS2.ext hY⟩⟩ (by simp) (fun r hr => by simp at hr; subst hr; rw [HDl.out]; omega) (fun r hr z hz => by simp at hr; subst hr; exact HDb.out z hz) (HL.out.ext (hE23.trans hY)))
      subst hlv
      clear hO hO2 hir hlt hS2 hDl
      go_wp2_with fail
      refine (hsml.out _ X.heap.size ((Ext.refl _).alloc _) (by go_simp)).mono ?_
      rintro e w9 ⟨hp9, hE11⟩
      have hfin := hE23.trans (((Ext.refl X).alloc (.cells #[.slice sa2 D.length sc2] 88)).trans hE11)
      cases hs : smallB D
      · have hsm : smallM [D] = false := by simp [smallM, hs]
        rw [if_neg (by rw [hsm]; decide)] at hp9
        subst hp9
        have Hres := Lib.hid (show FacPost w D (.returned (.tuple #[.slice none 0 0, .int .i64 4])) w9 from ⟨by rw [if_neg (by rw [hs]; decide)], hfin⟩)
        clear hs hsm
        go_wp2_with fail
        go_ret2
        exact Hres.out
      · have hsm : smallM [D] = true := by simp [smallM, hs]
        rw [if_pos hsm] at hp9
        obtain ⟨vr, rfl, hvr⟩ := hp9
        obtain ⟨vs9, hv1, hv2, hv3⟩ := hvr
        have h90 := hv3 0 (by simp) (by rw [hv1]; simp)
        rcases hv2.2 with ⟨_, h0'⟩ | ⟨g9, c9, cur9, rfl, _, _, hc9, _⟩
        · simp at h0'
        · have hc9' := World.ownsRow.cellAt hv2 0 (by simp)
          rw [List.getElem?_eq_getElem (by rw [hv1]; simp)] at hc9'
          simp only [List.length_singleton] at hc9 hc9'
          obtain ⟨rv, hrv⟩ : ∃ rv, rv = vs9[0]'(by rw [hv1]; simp) := ⟨_, rfl⟩
          rw [← hrv] at hc9' h90
          have hc10 : w9.cell? ⟨g9, 0, none⟩ = some rv := by simpa using hc9'
          have hsz8 := (hE23.trans ((Ext.refl X).alloc (.cells #[.slice sa2 D.length sc2] 88))).size
          have Hres := Lib.hid (show FacPost w D (.returned (.tuple #[rv, .int .i64 0])) w9 from ⟨by rw [if_pos hs]; exact ⟨rv, rfl, RowV.mono h90 hsz8⟩, hfin⟩)
          clear hs hsm h90 hv1 hv2 hv3 hrv hc9'
          go_wp2_with fail
          go_ret2
          exact Hres.out
end Go.Proofs.YtkjnjmihfonilaaGreatDoor
namespace Go.Proofs.YtkjnjmihfonilaaGreatDoor
open Go.RowKit Go.Sort
set_option maxRecDepth 100000 in
set_option maxHeartbeats 1000000 in
theorem index_one {w : World} {sa : Option Addr} {gb go cap : Nat} {vs : List Value} {p : Nat → Bool} {k : Int} (hS : Sl w sa gb go vs) (hl : vs.length ≤ 1000000)
    (hF : ∀ i (h : i < vs.length) W, Ext w W → Calls Tryz.prog 98 #[vs[i]] W fun e w' => e = .returned (.bool (p i)) ∧ Ext W w') (hk : IxR p vs.length k) :
    Calls Tryz.prog 99 #[.slice sa vs.length cap, .func (.func 98) #[] #[]] w fun e w' => e = .returned (.int .i64 k) ∧ Ext w w' := by
  have HF := Lib.hid hF
  have HK := Lib.hid hk
  have HS := Lib.hid hS
  clear hF hk hS
  go_enter Tryz.func99, Tryz.ntmps99
  go_wp2_with fail
  go_loopw [8] (fun idx wr => ∃ i : Nat, i ≤ vs.length ∧ idx = .int .i64 i ∧ Hid (∀ j, j < i → p j = false) ∧ Ext w wr) (fun idx _ => vs.length - (intOf idx).toNat)
  case atStart => exact ⟨0, by omega, by go_num, Lib.hid (fun j h => by omega), Ext.refl _⟩
  case round =>
    obtain ⟨i, hi, rfl, Hp, hE⟩ := hrel
    generalize wr = X at *
    by_cases hlt : i < vs.length
    · have hii : (i : Int) < (vs.length : Int) := by omega
      obtain ⟨u, hu⟩ : ∃ u, u = vs[i] := ⟨_, rfl⟩
      have hc := hE.cell (HS.out.cell i u (by rw [hu]; exact List.getElem?_eq_getElem hlt))
      obtain rfl := HS.out.addr (by omega)
      have hf := HF.out i hlt X hE
      rw [← hu] at hf
      have Hf := Lib.hid hf
      clear hf hu
      cases hpi : p i
      · rw [hpi] at Hf
        have Hpi := Lib.hid hpi
        clear hpi
        go_wp2_with fail
        refine Hf.out.mono ?_
        rintro e W ⟨rfl, hE2⟩
        go_wp2_with fail
        go_roundw
        case rel => exact ⟨i + 1, by omega, by go_num, Lib.hid (fun j hj => by
          by_cases e : j = i
          · subst e; exact Hpi.out
          · exact Hp.out j (by omega)), hE.trans hE2⟩
        case measure => simp [intOf] <;> omega
      · rw [hpi] at Hf
        have Hki := Lib.hid (IxR_at HK.out hlt hpi Hp.out)
        clear hpi
        go_wp2_with fail
        refine Hf.out.mono ?_
        rintro e W ⟨rfl, hE2⟩
        go_wp2_with fail
        go_ret
        exact ⟨by rw [Hki.out]; rfl, hE.trans hE2⟩
    · have Hki := Lib.hid (IxR_no HK.out (fun j hj => Hp.out j (by omega)))
      go_wp2_with fail
      go_ret
      exact ⟨by rw [Hki.out]; rfl, hE⟩
end Go.Proofs.YtkjnjmihfonilaaGreatDoor
namespace Go.Proofs.YtkjnjmihfonilaaGreatDoor
open Go.RowKit Go.Sort
set_option maxRecDepth 100000 in
theorem group_ok {w : World} {v : Value} {M : Mx} {n : Nat} (hM : MatR w v M) (hck : checkM M = 0) (hn : n ≤ 12) (h0 : 0 < M.length) (hc : ncols M = n) :
    Calls Tryz.prog 94 #[v, .int .i64 n] w fun e w' => e = .returned (.int .i64 0) ∧ Ext w w' := by
  have hch := Lib.hid (tableCheck_any hM)
  rw [hck] at hch
  obtain ⟨sa, gb, go, cap, vs, rfl, hcap, hvl, hS, hr⟩ := hM
  obtain ⟨s0, c0, rfl, hrow⟩ := ncols_row hS hvl hr h0
  rw [hc] at hrow
  have hn0 : ¬ (n : Int) < 0 := by omega
  have hn12 : ¬ (12 : Int) < (n : Int) := by omega
  have hMp : (0 : Int) < (M.length : Int) := by omega
  clear hck hS hvl hr hcap hc hn
  go_enter Tryz.func94, Tryz.ntmps94
  go_wp2_with fail
  refine hch.out.mono ?_
  rintro e w1 ⟨rfl, hE1⟩
  have hrow1 := hE1.cell hrow
  go_wp2_with fail
  go_ret
  exact ⟨rfl, hE1⟩
end Go.Proofs.YtkjnjmihfonilaaGreatDoor
namespace Go.Proofs.YtkjnjmihfonilaaGreatDoor
open Go.RowKit Go.Sort
theorem run_row {w : World} {B : Nat} {v : Value} {r : List Int} (t T : TypeId) (ht : Tryz.prog.underlying t = some (.slice 3)) (hown : RowV B w v r) {vx : Value} {z : List Int} (hR : RowR w vx z) (hl : r.length + z.length ≤ 1000000000) (hB : B ≤ w.heap.size) :
    ∃ v' w', (Builtin.append_ #[t, t] T #[v, vx]).run Tryz.prog w = .ok v' w' ∧ RowV B w' v' (r ++ z) ∧ w.grownBy w' v.ownBlock := by
  obtain ⟨i0, hi, hz0, hz1, hz2⟩ := info_parts Tryz.infoInt
  obtain ⟨sa, b, c, gc, rfl, hc, hS⟩ := hR
  have hrun : ∃ v' w', (Builtin.append_ #[t, t] T #[v, .slice sa z.length gc]).run Tryz.prog w = .ok v' w' ∧ w'.ownsRow B 3 1 v' (r.length + z.length) (is r ++ is z) ∧ w.grownBy w' v.ownBlock := by
    rcases sa with _ | ad
    · have hz : z = [] := by
        rcases Nat.eq_zero_or_pos z.length with h0 | h0
        · exact List.eq_nil_of_length_eq_zero h0
        · have := hS.addr (by rw [is_length]; exact h0)
          cases this
      subst hz
      refine ⟨v, w, ?_, by have h1 := hown; unfold RowV at h1; simpa [is] using h1, World.grownBy.refl w _⟩
      rcases hown.2 with ⟨rfl, h0⟩ | ⟨g, cap, cur, rfl, _, _, hnc, _⟩
      · simp [Builtin.append_, run_underlying ht, sizeOf, typeInfo, hi, Builtin.lenOf, Builtin.firstCells]
      · simp [Builtin.append_, run_underlying ht, sizeOf, typeInfo, hi, Builtin.lenOf, Builtin.firstCells, hnc, storeCells]
    · have hcells : ∀ j u, (is z)[j]? = some u → w.cell? (ad.add j) = some u := fun j u hu => by
        have hj := (List.getElem?_eq_some_iff.1 hu).1
        obtain rfl : ad = ⟨b, c, none⟩ := Option.some.inj (hS.addr (by omega))
        rw [Lib.add_plain]; exact hS.cell j u hu
      obtain ⟨v', w', h1, h2, h3, _, _⟩ := run_append_own_at (P := Tryz.prog) w B t T 3 i0 _ 1 8 ht hi hz0 hz1 hz2 rfl (by omega) v r.length (is r) hown ad z.length gc (is z) (by rw [is_length, Nat.mul_one]) hcells (fun u hu => by obtain ⟨y, _, rfl⟩ := List.mem_map.1 hu; rfl) (by unfold maxLen; omega) (by omega) hB
      exact ⟨v', w', h1, h2, h3⟩
  obtain ⟨v', w', h1, h2, h3⟩ := hrun
  refine ⟨v', w', h1, ?_, h3⟩
  unfold RowV
  have e : is (r ++ z) = is r ++ is z := by simp [is]
  rw [e, List.length_append]; exact h2
theorem row_lit0 {w : World} {T : TypeId} (hT : T = 3) : RowV w.heap.size (w.alloc (.cells #[] T)) (.slice (some ⟨w.heap.size, 0, none⟩) 0 0) [] := by
  subst hT
  exact OwnV.of (xs := []) (cap := 0) (Nat.le_refl _) Array.getElem?_push_size (by simp) (by unfold maxLen; omega) rfl rfl
end Go.Proofs.YtkjnjmihfonilaaGreatDoor
namespace Go.Proofs.YtkjnjmihfonilaaGreatDoor
open Go.RowKit Go.Sort
section
variable {w : World} {ops : Array Oper} {rest : List Oper} {o : Oper} {a : Act} {Q : Exit → Act → World → Prop}
theorem app_rows (hgd : o.guard = none) (s x : Operand) (t : TypeId) (ht : Tryz.prog.underlying t = some (.slice 3)) (ho : o.op = .call { callee := .builtin .append, args := #[s, x], argTypes := #[t, t] })
    {B : Nat} {v : Value} {r : List Int} (hs : a.eval s = v) (hown : RowV B w v r) {vx : Value} {z : List Int} (hx : a.eval x = vx) (hR : RowR w vx z) (hl : r.length + z.length ≤ 1000000000) (hB : B ≤ w.heap.size)
    (h : ∀ v' w', RowV B w' v' (r ++ z) → Below B w w' → w.grownBy w' v.ownBlock → wpList Tryz.prog ops Q rest (a.put o.dst v') w') : wpList Tryz.prog ops Q (o :: rest) a w :=
  wpList_plain hgd fun K hK => by
    obtain ⟨v', w', h1, h2, h3⟩ := run_row t o.type ht hown hR hl hB
    unfold Oper.wp execOp
    simp only [ho, resolve, invoke, builtin, Sem.run_bind, Sem.run_pure, Result.andThen_ok, List.map_toArray, List.map_cons, List.map_nil, hs, hx, h1]
    exact hK _ _ (h v' w' h2 (Below.grown (Below.refl _ _) h3 hB (fun q hq => (World.ownsRow.lt hown q hq).1)) h3)
end
theorem RowR.len {w : World} {v : Value} {r : List Int} (h : RowR w v r) : ∃ sa cap, v = .slice sa r.length cap ∧ r.length ≤ cap := by
  obtain ⟨sa, gb, go, cap, e, hc, _⟩ := h; exact ⟨sa, cap, e, hc⟩
end Go.Proofs.YtkjnjmihfonilaaGreatDoor
namespace Go.Proofs.YtkjnjmihfonilaaGreatDoor
open Go.RowKit Go.Sort
set_option maxRecDepth 100000 in
theorem rclone0_any {w : World} {sa : Option Addr} {cap : Nat} :
    Calls Tryz.prog 97 #[.slice sa 0 cap] w fun e w' => ∃ u, e = .returned u ∧ RowV w.heap.size w' u [] ∧ Ext w w' := by
  have knil := fun (w : World) (a : Option Addr) (n c : Nat) => Lib.run_eql_slice_nil (P := Tryz.prog) w 26 3 a n c 0 0 Tryz.underlying26
  cases sa with
  | none =>
    go_enter Tryz.func97, Tryz.ntmps97
    go_wp2_with fail
    go_ret
    exact ⟨_, rfl, RowV.nil _ _, Ext.refl _⟩
  | some ad =>
    have H := Lib.hid (fun W => (show RowR W (.slice (some ad) 0 cap) [] from ⟨some ad, 0, 0, cap, rfl, Nat.zero_le _, Sl.nil _ _ _ _⟩))
    go_enter Tryz.func97, Tryz.ntmps97
    go_wp2_with (at_builtin; refine app_rows rfl _ _ 26 Tryz.underlying26 rfl (B := w.heap.size) rfl (row_lit0 (w := w) (T := 3) rfl) (vx := .slice (some ad) 0 cap) (by go_simp) (H.out _) (by simp) (by simp) ?_; intro v1 w1 hV1 hB1 hG1; rw [List.nil_append] at hV1; have hE1 := Ext.mk' (Below.trans ((Ext.refl w).alloc (.cells #[] 3)) hB1); have HV1 := Lib.hid hV1; obtain ⟨s1, c1, rfl, hc1⟩ := hV1.row.len; clear hV1 hB1 hG1)
    go_wp2_with fail
    go_ret
    exact ⟨_, rfl, HV1.out, hE1⟩
set_option maxRecDepth 100000 in
theorem delete0_any {w : World} {sa : Option Addr} {cap : Nat} :
    Calls Tryz.prog 96 #[.slice sa 0 cap, .func (.func 98) #[] #[]] w fun e w' => e = .returned (.slice sa 0 cap) ∧ Ext w w' := by
  have hix := Lib.hid (index_one (cap := cap) (p := fun i => decide (([] : List Int).getD i 0 = 1)) (k := -1) (w := w) (sa := sa) (gb := 0) (go := 0) (vs := []) (Sl.nil _ _ _ _) (by simp) (fun i hi W hW => by simp at hi) (.inl ⟨rfl, fun i hi => by simp at hi⟩))
  go_enter Tryz.func96, Tryz.ntmps96
  go_wp2_with fail
  refine hix.out.mono ?_
  rintro e W ⟨rfl, hW⟩
  go_wp2_with fail
  go_ret
  exact ⟨rfl, hW⟩
set_option maxRecDepth 100000 in
set_option maxHeartbeats 2000000 in
theorem Quotient_none {w : World} {v : Value} {M : Mx} {n : Nat} (hM : MatR w v M) (hn : n ≤ 12) (hck : checkM M = 0) (h0 : 0 < M.length) (hc : ncols M = n)
    (hfa : ∀ (w : World) (v : Value), MatR w v M → Laid w → Calls Tryz.prog 95 #[v] w fun e w' => ∃ u, e = .returned (.tuple #[u, .int .i64 0]) ∧ RowV w.heap.size w' u [] ∧ Ext w w') (hL : Laid w) :
    Calls Tryz.prog 54 #[v, .int .i64 n] w fun e w' => (∃ s c, e = .returned (.tuple #[.slice s 0 c, .int .i64 n, .int .i64 0])) ∧ Ext w w' := by
  have hg := Lib.hid (group_ok hM hck hn h0 hc)
  have hf := Lib.hid (fun W (hW : Ext w W) => hfa W v (hM.ext hW) (hL.ext hW))
  obtain ⟨sa, gb, go, cap, vs, rfl, _, _, _, _⟩ := hM
  clear hfa hL hck h0 hc
  go_enter Tryz.func54, Tryz.ntmps54
  go_wp2_with fail
  refine hg.out.mono ?_
  rintro e w1 ⟨rfl, hX1⟩
  clear hg
  go_wp2_with fail
  refine (hf.out _ hX1).mono ?_
  rintro e w2 ⟨u, rfl, hu, hX2⟩
  have hX12 := hX1.trans hX2
  obtain ⟨ra, rb, ro, rc, hrv, hrc, hrS⟩ := hu.row
  subst hrv
  have hcl := Lib.hid (rclone0_any (w := w2) (sa := ra) (cap := rc))
  clear hu hrS hf hX2
  go_wp2_with fail
  refine hcl.out.mono ?_
  rintro e w3 ⟨u3, rfl, hu3, hX3⟩
  obtain ⟨sb, cb, rfl, _⟩ := hu3.row.len
  have hX13 := hX12.trans hX3
  clear hu3 hX3 hcl
  go_wp2_with fail
  refine (delete0_any (w := w3) (sa := sb) (cap := cb)).mono ?_
  rintro e w4 ⟨rfl, hX4⟩
  go_wp2_with fail
  go_ret3
  exact ⟨⟨_, _, rfl⟩, hX13.trans hX4⟩
end Go.Proofs.YtkjnjmihfonilaaGreatDoor
