/- Part 32 of the proof of the claim: contracts of the functions that it reaches, and plain laws; no condition. -/
import Derived.Test.YtcklioolpicmcaaGreatDoorV16
import Derived.Test.YtcklioolpicmcaaGreatDoorV23
import Derived.Test.YtcklioolpicmcaaGreatDoorV30
import Derived.Test.YtcklioolpicmcaaGreatDoorCards
import Derived.Test.YtcklioolpicmcaaGreatDoorTie
import Derived.SevenTiedAt
namespace Go.Proofs.YtcklioolpicmcaaGreatDoor
open Go.RowKit Go.Sort
set_option maxRecDepth 100000 in
theorem group_any {w : World} {v : Value} {M : Mx} {n : Int} (hM : MatR w v M) (hn : -9223372036854775808 ≤ n ∧ n ≤ 9223372036854775807) :
    Calls Tryz.prog 80 #[v, .int .i64 n] w fun e w' => e = .returned (.int .i64 (groupE M n)) ∧ Ext w w' := by
  have hch := Lib.hid (tableCheck_any hM)
  obtain ⟨sa, gb, go, cap, vs, rfl, hcap, hvl, hS, hr⟩ := hM
  by_cases h0 : checkM M = 0
  · rw [h0] at hch
    by_cases h1 : n < 0
    · have he : groupE M n = 3 := by unfold groupE; rw [if_pos h0, if_pos (.inl h1)]
      rw [he]
      clear hS hvl hr h0 he
      go_enter Tryz.func80, Tryz.ntmps80
      go_wp2_with fail
      refine hch.out.mono ?_
      rintro e w1 ⟨rfl, hE1⟩
      go_wp2_with fail
      go_ret
      exact ⟨rfl, hE1⟩
    by_cases h2 : 12 < n
    · have he : groupE M n = 3 := by unfold groupE; rw [if_pos h0, if_pos (.inr h2)]
      rw [he]
      clear hS hvl hr h0 he
      go_enter Tryz.func80, Tryz.ntmps80
      go_wp2_with fail
      refine hch.out.mono ?_
      rintro e w1 ⟨rfl, hE1⟩
      go_wp2_with fail
      go_ret
      exact ⟨rfl, hE1⟩
    by_cases hM0 : M.length = 0
    · have he : groupE M n = 0 := by unfold groupE; rw [if_pos h0, if_neg (by omega), if_neg (by omega)]
      rw [he]
      rw [hM0] at hch ⊢
      clear hS hvl hr h0 he hM0 hcap
      go_enter Tryz.func80, Tryz.ntmps80
      go_wp2_with fail
      refine hch.out.mono ?_
      rintro e w1 ⟨rfl, hE1⟩
      go_wp2_with fail
      go_ret
      exact ⟨rfl, hE1⟩
    · have hMp : (0 : Int) < (M.length : Int) := by omega
      obtain ⟨s0, c0, rfl, hrow⟩ := ncols_row hS hvl hr (by omega)
      by_cases hl : (ncols M : Int) = n
      · have he : groupE M n = 0 := by unfold groupE; rw [if_pos h0, if_neg (by omega), if_neg (by omega)]
        rw [he]
        obtain ⟨m, hm⟩ : ∃ m, m = ncols M := ⟨_, rfl⟩
        rw [← hm] at hl hrow
        subst hl
        clear hS hvl hr h0 he hM0 hcap hm
        go_enter Tryz.func80, Tryz.ntmps80
        go_wp2_with fail
        refine hch.out.mono ?_
        rintro e w1 ⟨rfl, hE1⟩
        have hrow1 := hE1.cell hrow
        go_wp2_with fail
        go_ret
        exact ⟨rfl, hE1⟩
      · have he : groupE M n = 5 := by unfold groupE; rw [if_pos h0, if_neg (by omega), if_pos ⟨by omega, hl⟩]
        rw [he]
        have hlb : ((ncols M : Int) == n) = false := beq_eq_false_iff_ne.2 hl
        have hlb2 : ((ncols M : Int) != n) = true := by simp [bne, hlb]
        clear hS hvl hr h0 he hM0 hcap
        go_enter Tryz.func80, Tryz.ntmps80
        go_wp2_with fail
        refine hch.out.mono ?_
        rintro e w1 ⟨rfl, hE1⟩
        have hrow1 := hE1.cell hrow
        go_wp2_with fail
        go_ret
        exact ⟨rfl, hE1⟩
  · obtain ⟨q, hq⟩ : ∃ q, q = checkM M := ⟨_, rfl⟩
    have he : groupE M n = q := by unfold groupE; rw [if_neg h0, hq]
    have hqb : (q == 0) = false := beq_eq_false_iff_ne.2 (by rw [hq]; exact h0)
    have hqb2 : (q != 0) = true := by simp [bne, hqb]
    rw [he]
    rw [← hq] at hch
    clear hS hvl hr h0 he hq hcap
    go_enter Tryz.func80, Tryz.ntmps80
    go_wp2_with fail
    refine hch.out.mono ?_
    rintro e w1 ⟨rfl, hE1⟩
    go_wp2_with fail
    go_ret
    exact ⟨rfl, hE1⟩
end Go.Proofs.YtcklioolpicmcaaGreatDoor
namespace Go.Proofs.YtcklioolpicmcaaGreatDoor
open Go.RowKit Go.Sort
set_option maxRecDepth 100000 in
theorem rclone0_any {w : World} {sa : Option Addr} {cap : Nat} :
    Calls Tryz.prog 82 #[.slice sa 0 cap] w fun e w' => ∃ u, e = .returned u ∧ RowV w.heap.size w' u [] ∧ Ext w w' := by
  have knil := fun (w : World) (a : Option Addr) (n c : Nat) => Lib.run_eql_slice_nil (P := Tryz.prog) w 32 3 a n c 0 0 Tryz.underlying32
  cases sa with
  | none =>
    go_enter Tryz.func82, Tryz.ntmps82
    go_wp2_with fail
    go_ret
    exact ⟨_, rfl, RowV.nil _ _, Ext.refl _⟩
  | some ad =>
    have H := Lib.hid (fun W => (show RowR W (.slice (some ad) 0 cap) [] from ⟨some ad, 0, 0, cap, rfl, Nat.zero_le _, Sl.nil _ _ _ _⟩))
    go_enter Tryz.func82, Tryz.ntmps82
    go_wp2_with (at_builtin; refine app_rows rfl _ _ 32 Tryz.underlying32 rfl (B := w.heap.size) rfl (row_lit0 (w := w) (T := 3) rfl) (vx := .slice (some ad) 0 cap) (by go_simp) (H.out _) (by simp) (by simp) ?_; intro v1 w1 hV1 hB1 hG1; rw [List.nil_append] at hV1; have hE1 := Ext.mk' (Below.trans ((Ext.refl w).alloc (.cells #[] 3)) hB1); have HV1 := Lib.hid hV1; obtain ⟨s1, c1, rfl, hc1⟩ := hV1.row.len; clear hV1 hB1 hG1)
    go_wp2_with fail
    go_ret
    exact ⟨_, rfl, HV1.out, hE1⟩
set_option maxRecDepth 100000 in
theorem delete0_any {w : World} {sa : Option Addr} {cap : Nat} :
    Calls Tryz.prog 81 #[.slice sa 0 cap, .func (.func 83) #[] #[]] w fun e w' => e = .returned (.slice sa 0 cap) ∧ Ext w w' := by
  have hix := Lib.hid (index_one (cap := cap) (p := fun i => decide (([] : List Int).getD i 0 = 1)) (k := -1) (w := w) (sa := sa) (gb := 0) (go := 0) (vs := []) (Sl.nil _ _ _ _) (by simp) (fun i hi W hW => by simp at hi) (.inl ⟨rfl, fun i hi => by simp at hi⟩))
  go_enter Tryz.func81, Tryz.ntmps81
  go_wp2_with fail
  refine hix.out.mono ?_
  rintro e W ⟨rfl, hW⟩
  go_wp2_with fail
  go_ret
  exact ⟨rfl, hW⟩
set_option maxRecDepth 100000 in
set_option maxHeartbeats 2000000 in
theorem Quotient_u {w : World} {v : Value} {M : Mx} {n : Nat} {D : List Int} (hM : MatR w v M) (hn : n ≤ 12) (hgr : groupE M n = 0) (hDl : D.length ≤ 3)
    (hfa : ∀ (w : World) (v : Value), MatR w v M → Laid w → Calls Tryz.prog 29 #[v] w fun e w' => ∃ u, e = .returned (.tuple #[u, .int .i64 0]) ∧ RowV w.heap.size w' u D ∧ Ext w w') (hL : Laid w) :
    Calls Tryz.prog 27 #[v, .int .i64 n] w fun e w' => ∃ u, e = .returned (.tuple #[u, .int .i64 ((n : Int) - D.length), .int .i64 0]) ∧ RowV w.heap.size w' u (not1 D) ∧ Ext w w' := by
  have hg := Lib.hid (group_any (n := (n : Int)) hM (by omega))
  rw [hgr] at hg
  have hf := Lib.hid (fun W (hW : Ext w W) => hfa W v (hM.ext hW) (hL.ext hW))
  obtain ⟨sa, gb, go, cap, vs, rfl, _, _, _, _⟩ := hM
  obtain ⟨d, hd⟩ : ∃ d, d = D.length := ⟨_, rfl⟩
  rw [← hd] at hDl ⊢
  have Hd := Lib.hid hd
  clear hgr hfa hL hd
  go_enter Tryz.func27, Tryz.ntmps27
  go_wp2_with fail
  refine hg.out.mono ?_
  rintro e w1 ⟨rfl, hX1⟩
  clear hg
  go_wp2_with fail
  refine (hf.out _ hX1).mono ?_
  rintro e w2 ⟨u, rfl, hu, hX2⟩
  have hX12 := hX1.trans hX2
  clear hf hX2
  rcases Nat.eq_zero_or_pos d with h0 | h0
  · have hD0 : D = [] := List.eq_nil_of_length_eq_zero (by have := Hd.out; omega)
    subst hD0
    subst h0
    obtain ⟨ra, rb, ro, rc, hrv, hrc, hrS⟩ := hu.row
    subst hrv
    have hcl := Lib.hid (rclone0_any (w := w2) (sa := ra) (cap := rc))
    clear hu hrS
    go_wp2_with fail
    refine hcl.out.mono ?_
    rintro e w3 ⟨u3, rfl, hu3, hX3⟩
    obtain ⟨sb, cb, rfl, _⟩ := hu3.row.len
    have HU := Lib.hid hu3
    have hX13 := hX12.trans hX3
    clear hu3 hX3 hcl
    go_wp2_with fail
    refine (delete0_any (w := w3) (sa := sb) (cap := cb)).mono ?_
    rintro e w4 ⟨rfl, hX4⟩
    have Hres := Lib.hid ((HU.out.ext hX4).mono hX12.size)
    go_wp2_with fail
    go_ret3
    exact ⟨_, rfl, Hres.out, hX13.trans hX4⟩
  · obtain ⟨ra, rb, ro, rc, hrv, hrc, hrS⟩ := hu.row
    subst hrv
    have hrow := hu.row
    rw [← Hd.out] at hrow ⊢
    have hcl := Lib.hid (rclone_any hrow (by rw [← Hd.out]; exact h0) (by rw [← Hd.out]; omega))
    rw [← Hd.out] at hcl
    have hdel := Lib.hid (fun W g cap (hO : OwnV 3 w2.heap.size W g cap (is D)) => by
      have h1 := delete_any hO (by rw [← Hd.out]; omega)
      rw [← Hd.out] at h1
      exact h1)
    clear hrow hu hrS hrc
    go_wp2_with fail
    refine hcl.out.mono ?_
    rintro e w3 ⟨g9, cap9, rfl, hO3, hX3⟩
    have hb3 := hO3.lt
    have Hd2 := Lib.hid (hdel.out _ _ _ hO3)
    clear hcl hdel hO3
    go_wp2_with fail
    refine Hd2.out.mono ?_
    rintro e w4 ⟨rfl, hO4, hG4⟩
    have hX4 := ext_trans_grown (hX12.trans hX3) hG4 (by have := hX12.size; omega)
    have Hres := Lib.hid (show RowV w.heap.size w4 (slv g9 (not1 D).length cap9) (not1 D) from (ownV_row hO4 rfl).mono hX12.size)
    clear hO4 hG4 Hd2
    go_wp2_with fail
    go_ret3
    exact ⟨_, rfl, Hres.out, hX4⟩
def expN (D : List Int) (n : Nat) : Int := if D.length < n then 0 else if n = 0 then 1 else D.getD (n - 1) 0
def expB (D : List Int) (n : Nat) : Bool := !decide (D.length < n)
set_option maxRecDepth 100000 in
set_option maxHeartbeats 2000000 in
theorem Exponent0_any {w : World} {v : Value} {M : Mx} {n : Nat} (hM : MatR w v M) (hR : Rect 0 M) (hl : M.length ≤ 3) (hn : n ≤ 12) (hgr : groupE M n = 0) (hL : Laid w) :
    Calls Tryz.prog 28 #[v, .int .i64 n] w fun e w' => e = .returned (.tuple #[.int .i64 (expN [] n), .bool (expB [] n), .int .i64 0]) ∧ Ext w w' := by
  have hg := Lib.hid (group_any (n := (n : Int)) hM (by omega))
  rw [hgr] at hg
  have hdg := Lib.hid (fun W (hW : Ext w W) => diagonal0_any (hM.ext hW) hR (by omega) (hL.ext hW))
  obtain ⟨sa, gb, go, cap, vs, rfl, _, _, _, _⟩ := hM
  clear hgr hR hL hl
  rcases Nat.eq_zero_or_pos n with h0 | h0
  · subst h0
    go_enter Tryz.func28, Tryz.ntmps28
    go_wp2_with fail
    refine hg.out.mono ?_
    rintro e w1 ⟨rfl, hE1⟩
    go_wp2_with fail
    refine (hdg.out _ hE1).mono ?_
    rintro e w2 ⟨p, va, rfl, hcp, hG, hE2⟩
    go_wp2_with fail
    go_ret3
    exact ⟨rfl, hE1.trans hE2⟩
  · have hnI : (0 : Int) < (n : Int) := by omega
    have e1 : expN [] n = 0 := by unfold expN; rw [if_pos (by simpa using h0)]
    have e2 : expB [] n = false := by unfold expB; rw [decide_eq_true (by simpa using h0)]; rfl
    rw [e1, e2]
    clear e1 e2
    go_enter Tryz.func28, Tryz.ntmps28
    go_wp2_with fail
    refine hg.out.mono ?_
    rintro e w1 ⟨rfl, hE1⟩
    go_wp2_with fail
    refine (hdg.out _ hE1).mono ?_
    rintro e w2 ⟨p, va, rfl, hcp, hG, hE2⟩
    go_wp2_with fail
    go_ret3
    exact ⟨rfl, hE1.trans hE2⟩
set_option maxRecDepth 100000 in
set_option maxHeartbeats 4000000 in
theorem Exponent08_any {w : World} {v : Value} {M : Mx} {n : Nat} (hM : MatR w v M) (h : SmF M) (hn : n = ncols M) (hL : Laid w) :
    Calls Tryz.prog 28 #[v, .int .i64 n] w fun e w' => ∃ D, FacIs M D ∧ e = .returned (.tuple #[.int .i64 (expN D n), .bool (expB D n), .int .i64 0]) ∧ Ext w w' := by
  obtain ⟨f, rank, fin, hr, hf, hB⟩ := h.run
  have hfac : FacIs M (diagL rank fin.a) := ⟨_, _, rank, fin, h.n3, hf, rfl⟩
  have hsm0 := fac_small hfac (fun i k => by have := h.ent i k; omega)
  have hgr : groupE M n = 0 := by unfold groupE; rw [if_pos h.check, if_neg (by have := h.c3; omega), if_neg (by omega)]
  have hg := Lib.hid (group_any (n := (n : Int)) hM (by have := h.c3; omega))
  rw [hgr] at hg
  have hent : ∀ r ∈ M, ∀ z ∈ r, -1000000000 ≤ z ∧ z ≤ 1000000000 := fun r hr z hz => by have := h.mem r hr z hz; omega
  have hdg := Lib.hid (fun W (hW : Ext w W) => diagonal_any (hM.ext hW) h.rect h.n0 h.c0 (by have := h.n3; omega) (by have := h.c3; omega) hent hr ed_lim (by unfold ED; omega) (hL.ext hW))
  have HL := Lib.hid hL
  have hrn := hf.rn
  have hrc := hf.rc
  have hc3 := h.c3
  have hc0 := h.c0
  have hn3 := h.n3
  rw [← hn] at hdg hrc hc3 hc0
  have Hf := Lib.hid hfac
  obtain ⟨sa, gb, go, cap, vs, rfl, _, _, _, _⟩ := hM
  obtain ⟨N, hN⟩ : ∃ N, N = M.length := ⟨_, rfl⟩
  rw [← hN] at hg hdg hrn hn3 ⊢
  by_cases hlt : rank < n
  · have hlI : (rank : Int) < (n : Int) := by omega
    have e1 : expN (diagL rank fin.a) n = 0 := by unfold expN; rw [if_pos (by rw [diagL_length]; exact hlt)]
    have e2 : expB (diagL rank fin.a) n = false := by unfold expB; rw [decide_eq_true (by rw [diagL_length]; exact hlt)]; rfl
    have Hres := Lib.hid (fun (e : Ending) (w' : World) (he : e = .returned (.tuple #[.int .i64 0, .bool false, .int .i64 0])) (hE : Ext w w') => (show ∃ D, FacIs M D ∧ e = .returned (.tuple #[.int .i64 (expN D n), .bool (expB D n), .int .i64 0]) ∧ Ext w w' from ⟨_, hfac, by rw [e1, e2]; exact he, hE⟩))
    clear hL hr hf hB hent h hgr hsm0 hfac e1 e2 hn hN
    go_enter Tryz.func28, Tryz.ntmps28
    go_wp2_with fail
    refine hg.out.mono ?_
    rintro e w1 ⟨rfl, hE1⟩
    go_wp2_with fail
    refine (hdg.out _ hE1).mono ?_
    rintro e w2 ⟨⟨p, ga, ca, gl, cl, gr, cr⟩, aa, al, ar, rfl, hW, hE2⟩
    clear hW
    go_wp2_with fail
    go_ret3
    exact Hres.out _ _ rfl (hE1.trans hE2)
  · have hrk : rank = n := by omega
    obtain ⟨t, rfl⟩ : ∃ t, n = t + 1 := ⟨n - 1, by omega⟩
    obtain ⟨z, hz⟩ : ∃ z, z = eM fin.a t t := ⟨_, rfl⟩
    have hzD : (diagL rank fin.a).getD t 0 = z := by rw [getD_get (by rw [diagL_length]; omega)]; simp [diagL, hz]
    have hzs := hsm0 z (by rw [← hzD, getD_get (by rw [diagL_length]; omega)]; exact List.getElem_mem _)
    have e1 : expN (diagL rank fin.a) (t + 1) = z := by unfold expN; rw [if_neg (by rw [diagL_length]; omega), if_neg (by omega)]; exact hzD
    have e2 : expB (diagL rank fin.a) (t + 1) = true := by unfold expB; rw [decide_eq_false (by rw [diagL_length]; omega)]; rfl
    have Hres := Lib.hid (fun (e : Ending) (w' : World) (he : e = .returned (.tuple #[.int .i64 z, .bool true, .int .i64 0])) (hE : Ext w w') => (show ∃ D, FacIs M D ∧ e = .returned (.tuple #[.int .i64 (expN D (t + 1)), .bool (expB D (t + 1)), .int .i64 0]) ∧ Ext w w' from ⟨_, hfac, by rw [e1, e2]; exact he, hE⟩))
    have Hz := Lib.hid hz
    have Hzs := Lib.hid hzs
    have Hnd := Lib.hid (show nd z ≤ LIM by
      have h1 := nd_lt2 (hB.el t t)
      rw [← hz] at h1
      have h2 := ed_lim
      omega)
    have Hsm := Lib.hid (show smallM [[z]] = true by
      have h9 : grt z = false := by unfold grt; exact decide_eq_false (by omega)
      simp [smallM, smallB, h9])
    subst hrk
    have htN : t < N := by omega
    have htNI : (t : Int) < (N : Int) := by omega
    have htB : t ≤ 2 := by omega
    clear hL hr hf hB hent h hgr hsm0 hfac e1 e2 hn hN hlt hz hzD hzs
    go_enter Tryz.func28, Tryz.ntmps28
    go_wp2_with fail
    refine hg.out.mono ?_
    rintro e w1 ⟨rfl, hE1⟩
    go_wp2_with fail
    refine (hdg.out _ hE1).mono ?_
    rintro e w2 ⟨⟨p, ga, ca, gl, cl, gr, cr⟩, aa, al, ar, rfl, hW, hE2⟩
    have hX2 := hE1.trans hE2
    have hcA := hW.c0
    simp only at hcA
    obtain ⟨gx, cx, _, _, h1, _, _, hel⟩ := hW.a.atM hW.ra (by omega) (by rw [hW.la]; exact htN : t < _)
    have h2 := hel t (by omega)
    simp only at h1
    rw [← Hz.out] at h2
    obtain ⟨bz, hbz⟩ : ∃ bz, I z = .string bz := ⟨_, rfl⟩
    rw [hbz] at h2
    have Hbz := Lib.hid hbz
    have ht1 : ((t + 1 : Nat) : Int) - 1 = (t : Int) := by omega
    have hsml := Lib.hid (fun W (by' bx : Nat) (hY : Ext w2 W) (hby : W.cell? ⟨by', 0, none⟩ = some (.string bz)) (hbx : W.cell? ⟨bx, 0, none⟩ = some (.slice (some ⟨by', 0, none⟩) 1 1)) =>
      ssmall_any (w := W) (v := .slice (some ⟨bx, 0, none⟩) 1 1) (M := [[z]]) ⟨_, bx, 0, 1, [.slice (some ⟨by', 0, none⟩) 1 1], rfl, Nat.le_refl _, rfl, ⟨fun _ => rfl, fun i x hx => by
        have : i = 0 := by have := (List.getElem?_eq_some_iff.1 hx).1; simp at this; omega
        subst this
        simp only [List.getElem?_cons_zero, Option.some.injEq] at hx
        rw [← hx]; exact hbx⟩, fun i a bb' => by
        have : i = 0 := by simp at a; omega
        subst this
        exact ⟨some ⟨by', 0, none⟩, by', 0, 1, rfl, Nat.le_refl _, ⟨fun _ => rfl, fun i x hx => by
          have : i = 0 := by have := (List.getElem?_eq_some_iff.1 hx).1; simp [ss] at this; omega
          subst this
          have hx2 : (ss [z])[0]? = some x := hx
          have e : (ss [z])[0]? = some (I z) := rfl
          rw [e, Hbz.out] at hx2
          injection hx2 with hx2
          rw [← hx2]; exact hby⟩⟩⟩ (by simp) (fun r hr => by simp at hr; subst hr; simp) (fun r hr y hy => by simp at hr; subst hr; simp at hy; subst hy; exact Hnd.out) (HL.out.ext (hX2.trans hY)))
    clear hbz hel hW hE1 hE2 hg hdg
    go_wp2_with fail
    refine (hsml.out _ w2.heap.size (w2.heap.size + 1) (((Ext.refl _).alloc _).alloc _) (by go_simp) (by go_simp)).mono ?_
    rintro e w9 ⟨hp9, hE9⟩
    have hfin := hX2.trans (Ext.trans (((Ext.refl w2).alloc _).alloc _) hE9)
    rw [if_pos Hsm.out] at hp9
    obtain ⟨vr, rfl, hvr⟩ := hp9
    obtain ⟨vs9, hv1, hv2, hv3⟩ := hvr
    have h90 := hv3 0 (by simp) (by rw [hv1]; simp)
    rcases hv2.2 with ⟨_, h0'⟩ | ⟨g9, c9, cur9, rfl, _, _, hc9, _⟩
    · simp at h0'
    · have hc9' := World.ownsRow.cellAt hv2 0 (by simp)
      rw [List.getElem?_eq_getElem (by rw [hv1]; simp)] at hc9'
      simp only [List.length_singleton] at hc9 hc9'
      obtain ⟨rv, hrv⟩ : ∃ rv, rv = vs9[0]'(by rw [hv1]; simp) := ⟨_, rfl⟩
      rw [← hrv] at hc9' h90
      have hc10 : w9.cell? ⟨g9, 0, none⟩ = some rv := by simpa using hc9'
      have hrw : RowR w9 rv [z] := h90.row
      obtain ⟨s8, b8, o8, c8, hrv8, _, hS8⟩ := hrw
      have hz8 := hS8.cell 0 (.int .i64 z) rfl
      obtain rfl := hS8.addr (by simp [is])
      subst hrv8
      rw [Nat.add_zero] at hz8
      clear h90 hv1 hv2 hv3 hrv hc9' hS8 hsml h1 h2 hcA
      simp only [List.length_singleton] at hc10
      go_wp2_with fail
      go_ret3
      exact Hres.out _ _ rfl hfin
end Go.Proofs.YtcklioolpicmcaaGreatDoor
namespace Go.Proofs.YtcklioolpicmcaaGreatDoor
open Go.RowKit Go.Sort
theorem fac_q {M : Mx} {n : Nat} (h : SmM M) (hn : n ≤ 12) (hgr : groupE M n = 0) (hnc : M.length = 0 ∨ ncols M = n) : ∃ D : List Int, D.length ≤ 3 ∧ D.length ≤ n ∧ (∀ z ∈ D, 0 < z ∧ z ≤ 1000000000)
    ∧ (∀ (w : World) (v : Value), MatR w v M → Laid w → Calls Tryz.prog 27 #[v, .int .i64 n] w fun e w' => ∃ u, e = .returned (.tuple #[u, .int .i64 ((n : Int) - D.length), .int .i64 0]) ∧ RowV w.heap.size w' u (not1 D) ∧ Ext w w')
    ∧ (∀ (w : World) (v : Value), MatR w v M → Laid w → Calls Tryz.prog 28 #[v, .int .i64 n] w fun e w' => e = .returned (.tuple #[.int .i64 (expN D n), .bool (expB D n), .int .i64 0]) ∧ Ext w w')
    ∧ (∀ (w : World) (v : Value), MatR w v M → Calls Tryz.prog 54 #[v] w fun e w' => ∃ u, e = .returned u ∧ RowV w.heap.size w' u D ∧ Ext w w') := by
  by_cases hz : M.length = 0 ∨ ncols M = 0
  · have hR : Rect 0 M := by
      rcases hz with h0 | h0
      · rw [List.eq_nil_of_length_eq_zero h0]; intro r hr; cases hr
      · rw [← h0]; exact h.rect
    refine ⟨[], Nat.zero_le _, Nat.zero_le _, (fun z hz => by cases hz), fun w v hM hL => Quotient_u hM hn hgr (by simp) (fun w v hM hL => Factors0_any hM hR h.n3 hL) hL, fun w v hM hL => Exponent0_any hM hR h.n3 hn hgr hL, fun w v hM => (Factors08r_any hM (sm_dvm h)).mono ?_⟩
    rintro e w' ⟨u, rfl, ⟨j, hu, hj⟩, hE⟩
    have hj0 : j = 0 := by have := hj.1; have := hj.2.1; omega
    subst hj0
    exact ⟨u, rfl, hu, hE⟩
  · have hS : SmF M := h.smf (by omega) (by omega)
    obtain ⟨_, rank, fin, _, hf, _⟩ := hS.run
    have hfac : FacIs M (diagL rank fin.a) := ⟨_, _, rank, fin, h.n3, hf, rfl⟩
    have hrn := hf.rn
    have hrc := hf.rc
    have hn3 := h.n3
    refine ⟨diagL rank fin.a, by rw [diagL_length]; omega, by rw [diagL_length]; omega, fac_small hfac (fun i k => by have := hS.ent i k; omega), fun w v hM hL => Quotient_u hM hn hgr (by rw [diagL_length]; omega) (fun w v hM hL => (Factors08_any hM hS hL).mono ?_) hL, fun w v hM hL => (Exponent08_any hM hS (by omega) hL).mono ?_, fun w v hM => (Factors08r_any hM (sm_dvm h)).mono ?_⟩
    · rintro e w' ⟨u, D, rfl, hu, hD, _, hE⟩
      rw [hfac.uni hD (Eqv.refl _)]
      exact ⟨u, rfl, hu, hE⟩
    · rintro e w' ⟨D, hD, rfl, hE⟩
      rw [hfac.uni hD (Eqv.refl _)]
      exact ⟨rfl, hE⟩
    · rintro e w' ⟨u, rfl, ⟨j, hu, hj⟩, hE⟩
      rw [qf_dia rfl h.rect h.n3 h.c3 hf hj] at hu
      exact ⟨u, rfl, hu, hE⟩
def lastF (D : List Int) (i : Nat) : Int := if i = 0 then 1 else D.getD (i - 1) 0
set_option maxRecDepth 100000 in
set_option maxHeartbeats 8000000 in
theorem sq_walk {w : World} {R C : Nat} {e0 e1 e2 e3 e4 e5 e6 e7 e8 : Int} (hG : ShapeV #[.int .u8 R, .int .u8 C, .int .i8 e0, .int .i8 e1, .int .i8 e2, .int .i8 e3, .int .i8 e4, .int .i8 e5, .int .i8 e6, .int .i8 e7, .int .i8 e8] R C [e0, e1, e2, e3, e4, e5, e6, e7, e8]) (hL : Laid w) :
    Calls Tryz.prog 12 #[.agg #[.int .u8 R, .int .u8 C, .int .i8 e0, .int .i8 e1, .int .i8 e2, .int .i8 e3, .int .i8 e4, .int .i8 e5, .int .i8 e6, .int .i8 e7, .int .i8 e8]] w fun e w' => e = .returned (.bool true) ∧ Ext w w' := by
  have HL := Lib.hid hL
  have hC8 := hG.c8
  obtain ⟨M, hMd⟩ : ∃ M, M = shM [e0, e1, e2, e3, e4, e5, e6, e7, e8] (C % 4) (R % 4) := ⟨_, rfl⟩
  have hmk := Lib.hid (fun W => Make08_any (w := W) hG)
  rw [← hMd] at hmk
  have hSm : SmM M := by rw [hMd]; exact sh_small _ _ _
  obtain ⟨n, hn⟩ : ∃ n, n = C % 4 := ⟨_, rfl⟩
  have hn4 : n ≤ 3 := by omega
  have hnI : (C : Int) % 4 = (n : Int) := by omega
  have hnc : M.length = 0 ∨ ncols M = n := by
    rcases Nat.eq_zero_or_pos M.length with h | h
    · exact .inl h
    · right; rw [hn]; exact ncols_of h (by rw [hMd]; exact shM_rect _ _ _)
  have hgr : groupE M n = 0 := by
    have hck := sm_check hSm
    unfold groupE
    rw [if_pos hck, if_neg (by omega), if_neg (by omega)]
  obtain ⟨D, hD1, hD2, hD3, hqu, hex, hrf⟩ := fac_q hSm (by omega : n ≤ 12) hgr hnc
  have Hqu := Lib.hid hqu
  have Hex := Lib.hid hex
  have Hrf := Lib.hid hrf
  have HD3 := Lib.hid hD3
  obtain ⟨d, hd⟩ : ∃ d, d = D.length := ⟨_, rfl⟩
  rw [← hd] at hD1 hD2 Hqu
  have Hd := Lib.hid hd
  obtain ⟨kN, hkN⟩ : ∃ kN, kN = expN D n := ⟨_, rfl⟩
  obtain ⟨kB, hkB⟩ : ∃ kB, kB = expB D n := ⟨_, rfl⟩
  rw [← hkN, ← hkB] at Hex
  have HkN := Lib.hid hkN
  have HkB := Lib.hid hkB
  clear hG hL hMd hSm hqu hex hrf hD3 hd hkN hkB hn hnc hgr
  go_enter Tryz.func12, Tryz.ntmps12
  have hX : Ext w (w.alloc (.cells #[.int .u8 R, .int .u8 C, .int .i8 e0, .int .i8 e1, .int .i8 e2, .int .i8 e3, .int .i8 e4, .int .i8 e5, .int .i8 e6, .int .i8 e7, .int .i8 e8] 25)) := (Ext.refl w).alloc _
  go_wp2_with fail
  refine (known08_any (HL.out.ext hX)).mono ?_
  rintro e w1 ⟨rfl, hE1⟩
  have s0 : w1.cell? ⟨w.heap.size, 0, none⟩ = some (.int .u8 R) := hE1.cell (by go_simp)
  have s1 : w1.cell? ⟨w.heap.size, 1, none⟩ = some (.int .u8 C) := hE1.cell (by go_simp)
  have s2 : w1.cell? ⟨w.heap.size, 2, none⟩ = some (.int .i8 e0) := hE1.cell (by go_simp)
  have s3 : w1.cell? ⟨w.heap.size, 3, none⟩ = some (.int .i8 e1) := hE1.cell (by go_simp)
  have s4 : w1.cell? ⟨w.heap.size, 4, none⟩ = some (.int .i8 e2) := hE1.cell (by go_simp)
  have s5 : w1.cell? ⟨w.heap.size, 5, none⟩ = some (.int .i8 e3) := hE1.cell (by go_simp)
  have s6 : w1.cell? ⟨w.heap.size, 6, none⟩ = some (.int .i8 e4) := hE1.cell (by go_simp)
  have s7 : w1.cell? ⟨w.heap.size, 7, none⟩ = some (.int .i8 e5) := hE1.cell (by go_simp)
  have s8 : w1.cell? ⟨w.heap.size, 8, none⟩ = some (.int .i8 e6) := hE1.cell (by go_simp)
  have s9 : w1.cell? ⟨w.heap.size, 9, none⟩ = some (.int .i8 e7) := hE1.cell (by go_simp)
  have s10 : w1.cell? ⟨w.heap.size, 10, none⟩ = some (.int .i8 e8) := hE1.cell (by go_simp)
  have hX1 := hX.trans hE1
  clear hX hE1
  go_wp2_with fail
  refine (hmk.out w1).mono ?_
  rintro e w2 ⟨vm, rfl, hvm, hE2⟩
  have hMr := hvm.mat
  obtain ⟨sm, gm, om, cm, vsm, hmv, _, _, _, _⟩ := id hMr
  subst hmv
  have HMr := Lib.hid hMr
  have hX2 := hX1.trans hE2
  replace s1 := hE2.cell s1
  clear s0 s2 s3 s4 s5 s6 s7 s8 s9 s10 hvm hMr hE2 hX1 hmk
  go_wp2_with fail
  refine (Hqu.out _ _ HMr.out (HL.out.ext hX2)).mono ?_
  rintro e w3 ⟨u1, rfl, hu1, hE3⟩
  have H1 := Lib.hid hu1.row
  obtain ⟨su1, _, _, cu1, hu1v, _⟩ := hu1.row
  subst hu1v
  have hX3 := hX2.trans hE3
  replace HMr := Lib.hid (HMr.out.ext hE3)
  clear hu1 hE3 hX2 Hqu s1
  go_wp2_with fail
  refine (Hex.out _ _ HMr.out (HL.out.ext hX3)).mono ?_
  rintro e w4 ⟨rfl, hE4⟩
  have hX4 := hX3.trans hE4
  replace HMr := Lib.hid (HMr.out.ext hE4)
  replace H1 := Lib.hid (H1.out.ext hE4)
  clear hE4 hX3 Hex
  go_wp2_with fail
  refine (Hrf.out _ _ HMr.out).mono ?_
  rintro e w5 ⟨u3, rfl, hu3, hE5⟩
  obtain ⟨su3, gu3, ou3, cu3, hu3v, hcu3, hS3⟩ := hu3.row
  subst hu3v
  rw [← Hd.out] at hcu3 ⊢
  have HS3 := Lib.hid hS3
  have hX5 := hX4.trans hE5
  replace H1 := Lib.hid (H1.out.ext hE5)
  clear hu3 hS3 hE5 hX4 Hrf HMr
  go_wp2_with fail
  go_loopw [12, 13, 14] (fun ov lv iv wr => ∃ i : Nat, i ≤ d ∧ iv = .int .i64 i ∧ lv = .int .i64 (lastF D i) ∧ Hid (RowV w5.heap.size wr ov (not1 (D.take i))) ∧ Ext w5 wr) (fun _ _ iv _ => d - (intOf iv).toNat)
  case atStart => exact ⟨0, by omega, by go_num, rfl, Lib.hid (RowV.nil _ _), Ext.refl _⟩
  case round =>
    obtain ⟨i, hi, rfl, rfl, hO, hE⟩ := hrel
    generalize wr = X at *
    by_cases hlt : i < d
    · have hii : (i : Int) < (d : Int) := by omega
      have hiD : i < D.length := by rw [← Hd.out]; exact hlt
      obtain ⟨z, hz⟩ : ∃ z, z = D[i] := ⟨_, rfl⟩
      have hzp := HD3.out z (by rw [hz]; exact List.getElem_mem _)
      have c1 := (HS3.out.ext hE).cell i (.int .i64 z) (by rw [is_get hiD, hz])
      obtain rfl := HS3.out.addr (by rw [is_length]; omega)
      have hst := not1_snoc hiD
      rw [← hz] at hst
      have Hla := Lib.hid (show z = lastF D (i + 1) by unfold lastF; rw [if_neg (by omega), show i + 1 - 1 = i from rfl, getD_get hiD, hz])
      have hXs := hE.size
      by_cases h1 : z = 1
      · rw [if_pos h1] at hst
        have hzI : ¬ (1 : Int) < z := by omega
        have HO2 := Lib.hid (show RowV w5.heap.size X _ (not1 (D.take (i + 1))) by rw [hst]; exact hO.out)
        clear hst hz h1 hO
        go_wp2_with fail
        go_roundw
        case rel => exact ⟨i + 1, by omega, by go_num, by rw [← Hla.out], HO2, hE⟩
        case measure => simp [intOf] <;> omega
      · rw [if_neg h1] at hst
        have hzI : (1 : Int) < z := by omega
        have Hst := Lib.hid hst.symm
        have Hl := Lib.hid (show (not1 (D.take i)).length ≤ 1000000000 by have := not1_len (D.take i); rw [List.length_take] at this; omega)
        have Hc2 := Lib.hid (fun W (hW : Ext w5 W) => (HS3.out.ext hW).cell i (.int .i64 z) (by rw [is_get hiD, hz]))
        clear hst hz h1
        generalize not1 (D.take i) = L at *
        go_wp2_with (at_builtin; refine app_int rfl _ _ 32 Tryz.underlying32 rfl rfl (hO.out.ext ((Ext.refl _).alloc _)) rfl (b := X.heap.size) (z := z) (by go_simp) Hl.out (by simp; omega) ?_; intro gg cap2 w8 hO8 hB8 hG8; rw [Hst.out] at hO8; have hE8 : Ext w5 w8 := Below.trans (hE.alloc (.cells #[.int .i64 z] 3)) hB8; have c2 := Hc2.out _ hE8; have HO8 := Lib.hid hO8)
        go_roundw
        case rel => exact ⟨i + 1, by omega, by go_num, by rw [← Hla.out], HO8, hE8⟩
        case measure => simp [intOf] <;> omega
    · have hie : i = d := by omega
      have hii : ¬ (i : Int) < (d : Int) := by omega
      have hO2 := hO.out
      rw [hie, List.take_of_length_le (by rw [Hd.out]; exact Nat.le_refl _)] at hO2
      have H2 := Lib.hid hO2.row
      obtain ⟨su2, _, _, cu2, hu2v, _⟩ := hO2.row
      subst hu2v
      have Hll := Lib.hid (show (not1 D).length ≤ 10 by have := not1_len D; have := Hd.out; omega)
      replace H1 := Lib.hid (H1.out.ext hE)
      have hX6 := hX5.trans hE
      subst hie
      obtain ⟨lv, hlv⟩ : ∃ lv, lv = lastF D i := ⟨_, rfl⟩
      rw [← hlv]
      have Hlv := Lib.hid hlv
      by_cases hdn : i < n
      · have hdI : (i : Int) < (n : Int) := by omega
        have hk1 : kN = 0 := by rw [HkN.out]; unfold expN; rw [if_pos (by rw [← Hd.out]; exact hdn)]
        have hk2 : kB = false := by rw [HkB.out]; unfold expB; rw [decide_eq_true (by rw [← Hd.out]; exact hdn)]; rfl
        subst hk1 hk2
        have hne : ((i : Int) == (n : Int)) = false := beq_eq_false_iff_ne.2 (by omega)
        have hneI : ¬ (i : Int) = (n : Int) := by omega
        clear hO hO2 hlv hdn hX5 hE
        go_wp2_with fail
        refine (s08_same H1.out H2.out Hll.out).mono ?_
        rintro e w9 ⟨rfl, hE9⟩
        go_wp2_with fail
        go_ret
        exact ⟨rfl, hX6.trans hE9⟩
      · have hdI : ¬ (i : Int) < (n : Int) := by omega
        have hine : i = n := by omega
        have hk2 : kB = true := by rw [HkB.out]; unfold expB; rw [decide_eq_false (by rw [← Hd.out]; exact hdn)]; rfl
        have hk1 : kN = lv := by
          rw [HkN.out, Hlv.out]; unfold expN lastF
          rw [if_neg (by rw [← Hd.out]; exact hdn), ← hine]
        subst hk1 hk2
        subst hine
        clear hO hO2 hlv hdn hX5 hE
        go_wp2_with fail
        refine (s08_same H1.out H2.out Hll.out).mono ?_
        rintro e w9 ⟨rfl, hE9⟩
        go_wp2_with fail
        go_ret
        exact ⟨rfl, hX6.trans hE9⟩
end Go.Proofs.YtcklioolpicmcaaGreatDoor
namespace Go.Proofs.YtcklioolpicmcaaGreatDoor
open Go.ChangeShapes Go.WideShapes Go.ChangeAt Go.WideMaps Go.WideElems Go.RowKit Go.Deep
set_option maxRecDepth 100000 in
set_option maxHeartbeats 2000000 in
theorem smithQuotients_lifted (os : Os) (started : os.Started) (H : Type) (enc : TypeId × Value → H) :
    ReturnsInHanded {} Tryz.checked os 12 .any (fun w args => (Rows.smithQuotientsSpec.pre enc Tryz.prog Tryz.f12 [] false w args ∧ laidMetH Tryz.prog fr_list w) ∧ sizedMet enc Tryz.prog Tryz.f12 (OpenSpec.ofChange Rows.smithQuotientsSpec) false w args)
      (Rows.smithQuotientsSpec.post enc Tryz.prog Tryz.f12 false true false false) := by
  refine returnsInHanded_of_change_and (C := Tryz.checked) (X := fun w _ => laidMetH Tryz.prog fr_list w) (fun _ _ _ hh h => h.of_heap hh) fr_own started (by kernel_rfl) Tryz.func12
    (ChangeSpec.witness_shaped (enc := enc) (C := Tryz.checked) (os := os) (X := fun w _ => laidMetH Tryz.prog fr_list w) false (World.doorLaid Tryz.prog 400 os) #[.agg #[.int .u8 0, .int .u8 0, .int .i8 0, .int .i8 0, .int .i8 0, .int .i8 0, .int .i8 0, .int .i8 0, .int .i8 0, .int .i8 0, .int .i8 0]] 8 rfl (World.shaped_of_RefB (by kernel_rfl) (by kernel_rfl)) (by kernel_rfl) (by kernel_rfl) (by kernel_rfl) (door_met os _)) ?_
  intro W base args ds gs before hval0 hW _ _ hL _
  have hval : ∀ (j : Nat) t v, Tryz.f12.params[j]? = some t → args[j]? = some v → Value.okWide Tryz.prog W .any base t v := hval0
  have hW' := hW
  obtain ⟨p, q, hA0, hV, rfl, hfz, hnd⟩ := hW
  have hA : DataW.TrodAll enc Tryz.prog W 0 (fun _ => true) true Tryz.f12.params.toList args.toList ds p := hA0
  rw [Tryz.params12] at hA hval
  obtain ⟨v0, d0, rfl, rfl, h0⟩ := trodAll_one hA
  have hp0 : p = p := rfl
  obtain ⟨rfl, rfl⟩ := trodVars_none hV
  obtain ⟨cs0, rfl, hs0⟩ := okWide_struct Tryz.underlying25 (hval 0 25 v0 rfl rfl)
  rw [fr_cSh] at hs0
  have h0k := h0
  obtain ⟨fuel0, hf0⟩ := h0
  obtain ⟨R0, C0, e0_0, e0_1, e0_2, e0_3, e0_4, e0_5, e0_6, e0_7, e0_8, rfl, hG0⟩ := shape_open hs0 hf0
  clear hA0 hval0 hf0
  simp only [List.append_nil] at hW'
  have hlt : ∀ z ∈ p, z.block < W.heap.size := fun z hz => by simpa using hW'.lt z hz
  refine (sq_walk hG0 (laid_of hL)).mono ?_
  rintro e W' ⟨rfl, hE⟩
  have e1 : Rows.smithQuotientsSpec.fn H ([d0] ++ []) = { results := [.lit (.bool true)], args := [d0] } := rfl
  refine ⟨_, rfl, _, _, _, [], p, [], hW', ?_, ?_, ?_, hE.frame _, fun h => by cases h⟩
  · rw [e1]; exact trodAll_mk1 (shut_bool Tryz.underlying4 true)
  · rw [e1]; exact trodAll_mk1 (Below.trod fr_laidOut (by kernel_rfl) (of_decide_eq_true (by kernel_rfl)) h0k hE fun x hx => hlt x (by simp [hx]))
  · rw [e1]; rfl
theorem smithQuotients_holds : Rows.SmithQuotientsSaid :=
  OpenClaim.holds_of_wide 12 Tryz.f12 rfl rfl rfl rfl rfl rfl rfl ⟨rfl, rfl, rfl, rfl, rfl⟩ rfl rfl rfl rfl rfl (by kernel_rfl) Tryz.func12 (by kernel_rfl)
    (of_decide_eq_true (by kernel_rfl)) (by unfold Func.isWrapper; first | (rw [if_pos (by decide +kernel)]; kernel_rfl) | (rw [if_neg (by decide +kernel)]; exact ⟨rfl, rfl⟩))
    (fun os started H enc _ => smithQuotients_lifted os started H enc)
theorem smithQuotients_card : Rows.SmithQuotientsCardSaid :=
  Claim7.holds_tied_plain_at .later [] [.data, .data, .data, .sentinel, .sentinel] true Rows.smithQuotientsCard.stood.harness true
    smithQuotients_holds (fun _ h => by cases h) (by kernel_rfl) (fun _ h => by cases h) smithQuotients_row_tie rfl ⟨rfl, rfl⟩ (by kernel_rfl) rfl
    (fun f fn hf hfn => by
      obtain rfl : f = 12 := Option.some.inj ((show Tryz.prog.funcNamed "schisma/schismalaw08.SmithQuotients" = some 12 by kernel_rfl).symm.trans hf) |>.symm
      obtain rfl : fn = Tryz.f12 := (Option.some.inj (Tryz.func12.symm.trans hfn)).symm
      exact ⟨by kernel_rfl, fun j t ht => by
        rw [Tryz.params12] at ht
        have hm : t ∈ [25] := by simpa using Array.mem_of_getElem? ht
        have hall : ([25].all fun u => !Tryz.prog.wantsStandIn u) = true := by kernel_rfl
        exact (show Tryz.prog.wantsStandIn t = false by simpa using List.all_eq_true.1 hall t hm)⟩)
    (by kernel_rfl)
#print axioms smithQuotients_card
end Go.Proofs.YtcklioolpicmcaaGreatDoor
