/- Part 34 of the proof of the claim: contracts of the functions that it reaches, and plain laws; no condition. -/
import Derived.Test.YtokjolmpdfmnbaaGreatDoorV31
import Derived.Test.YtokjolmpdfmnbaaGreatDoorV33
import Derived.Test.YtokjolmpdfmnbaaGreatDoorV32
import Derived.Test.YtokjolmpdfmnbaaGreatDoorV02
import Derived.Test.YtokjolmpdfmnbaaGreatDoorV14
import Derived.Test.YtokjolmpdfmnbaaGreatDoorRows
import Derived.ProofKit
import Derived.LaidMore
import Derived.OpenShut
import Derived.Stop.Joined
import Derived.Stop.LaidErr
import Derived.Lib.LaidTab
import Derived.Deep.Matrix
import Derived.Test.YtokjolmpdfmnbaaGreatDoorV21
namespace Go.Proofs.YtokjolmpdfmnbaaGreatDoor
open Go.RowKit Go.Sort
def expN (D : List Int) (n : Nat) : Int := if D.length < n then 0 else if n = 0 then 1 else D.getD (n - 1) 0
def expB (D : List Int) (n : Nat) : Bool := !decide (D.length < n)
set_option maxRecDepth 100000 in
set_option maxHeartbeats 2000000 in
theorem Exponent0_any {w : World} {v : Value} {M : Mx} {n : Nat} (hM : MatR w v M) (hR : Rect 0 M) (hl : M.length ≤ 3) (hn : n ≤ 12) (hgr : groupE M n = 0) (hL : Laid w) :
    Calls Tryz.prog 15 #[v, .int .i64 n] w fun e w' => e = .returned (.tuple #[.int .i64 (expN [] n), .bool (expB [] n), .int .i64 0]) ∧ Ext w w' := by
  have hg := Lib.hid (group_any (n := (n : Int)) hM (by omega))
  rw [hgr] at hg
  have hdg := Lib.hid (fun W (hW : Ext w W) => diagonal0_any (hM.ext hW) hR (by omega) (hL.ext hW))
  obtain ⟨sa, gb, go, cap, vs, rfl, _, _, _, _⟩ := hM
  clear hgr hR hL hl
  rcases Nat.eq_zero_or_pos n with h0 | h0
  · subst h0
    go_enter Tryz.func15, Tryz.ntmps15
    go_wp2_with fail
    refine hg.out.mono ?_
    rintro e w1 ⟨rfl, hE1⟩
    go_wp2_with fail
    refine (hdg.out _ hE1).mono ?_
    rintro e w2 ⟨p, va, rfl, hcp, hG, hE2⟩
    go_wp2_with fail
    go_ret3
    exact ⟨rfl, hE1.trans hE2⟩
  · have hnI : (0 : Int) < (n : Int) := by omega
    have e1 : expN [] n = 0 := by unfold expN; rw [if_pos (by simpa using h0)]
    have e2 : expB [] n = false := by unfold expB; rw [decide_eq_true (by simpa using h0)]; rfl
    rw [e1, e2]
    clear e1 e2
    go_enter Tryz.func15, Tryz.ntmps15
    go_wp2_with fail
    refine hg.out.mono ?_
    rintro e w1 ⟨rfl, hE1⟩
    go_wp2_with fail
    refine (hdg.out _ hE1).mono ?_
    rintro e w2 ⟨p, va, rfl, hcp, hG, hE2⟩
    go_wp2_with fail
    go_ret3
    exact ⟨rfl, hE1.trans hE2⟩
set_option maxRecDepth 100000 in
set_option maxHeartbeats 4000000 in
theorem Exponent08_any {w : World} {v : Value} {M : Mx} {n : Nat} (hM : MatR w v M) (h : SmF M) (hn : n = ncols M) (hL : Laid w) :
    Calls Tryz.prog 15 #[v, .int .i64 n] w fun e w' => ∃ D, FacIs M D ∧ e = .returned (.tuple #[.int .i64 (expN D n), .bool (expB D n), .int .i64 0]) ∧ Ext w w' := by
  obtain ⟨f, rank, fin, hr, hf, hB⟩ := h.run
  have hfac : FacIs M (diagL rank fin.a) := ⟨_, _, rank, fin, h.n3, hf, rfl⟩
  have hsm0 := fac_small hfac (fun i k => by have := h.ent i k; omega)
  have hgr : groupE M n = 0 := by unfold groupE; rw [if_pos h.check, if_neg (by have := h.c3; omega), if_neg (by omega)]
  have hg := Lib.hid (group_any (n := (n : Int)) hM (by have := h.c3; omega))
  rw [hgr] at hg
  have hent : ∀ r ∈ M, ∀ z ∈ r, -1000000000 ≤ z ∧ z ≤ 1000000000 := fun r hr z hz => by have := h.mem r hr z hz; omega
  have hdg := Lib.hid (fun W (hW : Ext w W) => diagonal_any (hM.ext hW) h.rect h.n0 h.c0 (by have := h.n3; omega) (by have := h.c3; omega) hent hr ed_lim (by unfold ED; omega) (hL.ext hW))
  have HL := Lib.hid hL
  have hrn := hf.rn
  have hrc := hf.rc
  have hc3 := h.c3
  have hc0 := h.c0
  have hn3 := h.n3
  rw [← hn] at hdg hrc hc3 hc0
  have Hf := Lib.hid hfac
  obtain ⟨sa, gb, go, cap, vs, rfl, _, _, _, _⟩ := hM
  obtain ⟨N, hN⟩ : ∃ N, N = M.length := ⟨_, rfl⟩
  rw [← hN] at hg hdg hrn hn3 ⊢
  by_cases hlt : rank < n
  · have hlI : (rank : Int) < (n : Int) := by omega
    have e1 : expN (diagL rank fin.a) n = 0 := by unfold expN; rw [if_pos (by rw [diagL_length]; exact hlt)]
    have e2 : expB (diagL rank fin.a) n = false := by unfold expB; rw [decide_eq_true (by rw [diagL_length]; exact hlt)]; rfl
    have Hres := Lib.hid (fun (e : Ending) (w' : World) (he : e = .returned (.tuple #[.int .i64 0, .bool false, .int .i64 0])) (hE : Ext w w') => (show ∃ D, FacIs M D ∧ e = .returned (.tuple #[.int .i64 (expN D n), .bool (expB D n), .int .i64 0]) ∧ Ext w w' from ⟨_, hfac, by rw [e1, e2]; exact he, hE⟩))
    clear hL hr hf hB hent h hgr hsm0 hfac e1 e2 hn hN
    go_enter Tryz.func15, Tryz.ntmps15
    go_wp2_with fail
    refine hg.out.mono ?_
    rintro e w1 ⟨rfl, hE1⟩
    go_wp2_with fail
    refine (hdg.out _ hE1).mono ?_
    rintro e w2 ⟨⟨p, ga, ca, gl, cl, gr, cr⟩, aa, al, ar, rfl, hW, hE2⟩
    clear hW
    go_wp2_with fail
    go_ret3
    exact Hres.out _ _ rfl (hE1.trans hE2)
  · have hrk : rank = n := by omega
    obtain ⟨t, rfl⟩ : ∃ t, n = t + 1 := ⟨n - 1, by omega⟩
    obtain ⟨z, hz⟩ : ∃ z, z = eM fin.a t t := ⟨_, rfl⟩
    have hzD : (diagL rank fin.a).getD t 0 = z := by rw [getD_get (by rw [diagL_length]; omega)]; simp [diagL, hz]
    have hzs := hsm0 z (by rw [← hzD, getD_get (by rw [diagL_length]; omega)]; exact List.getElem_mem _)
    have e1 : expN (diagL rank fin.a) (t + 1) = z := by unfold expN; rw [if_neg (by rw [diagL_length]; omega), if_neg (by omega)]; exact hzD
    have e2 : expB (diagL rank fin.a) (t + 1) = true := by unfold expB; rw [decide_eq_false (by rw [diagL_length]; omega)]; rfl
    have Hres := Lib.hid (fun (e : Ending) (w' : World) (he : e = .returned (.tuple #[.int .i64 z, .bool true, .int .i64 0])) (hE : Ext w w') => (show ∃ D, FacIs M D ∧ e = .returned (.tuple #[.int .i64 (expN D (t + 1)), .bool (expB D (t + 1)), .int .i64 0]) ∧ Ext w w' from ⟨_, hfac, by rw [e1, e2]; exact he, hE⟩))
    have Hz := Lib.hid hz
    have Hzs := Lib.hid hzs
    have Hnd := Lib.hid (show nd z ≤ LIM by
      have h1 := nd_lt2 (hB.el t t)
      rw [← hz] at h1
      have h2 := ed_lim
      omega)
    have Hsm := Lib.hid (show smallM [[z]] = true by
      have h9 : grt z = false := by unfold grt; exact decide_eq_false (by omega)
      simp [smallM, smallB, h9])
    subst hrk
    have htN : t < N := by omega
    have htNI : (t : Int) < (N : Int) := by omega
    have htB : t ≤ 2 := by omega
    clear hL hr hf hB hent h hgr hsm0 hfac e1 e2 hn hN hlt hz hzD hzs
    go_enter Tryz.func15, Tryz.ntmps15
    go_wp2_with fail
    refine hg.out.mono ?_
    rintro e w1 ⟨rfl, hE1⟩
    go_wp2_with fail
    refine (hdg.out _ hE1).mono ?_
    rintro e w2 ⟨⟨p, ga, ca, gl, cl, gr, cr⟩, aa, al, ar, rfl, hW, hE2⟩
    have hX2 := hE1.trans hE2
    have hcA := hW.c0
    simp only at hcA
    obtain ⟨gx, cx, _, _, h1, _, _, hel⟩ := hW.a.atM hW.ra (by omega) (by rw [hW.la]; exact htN : t < _)
    have h2 := hel t (by omega)
    simp only at h1
    rw [← Hz.out] at h2
    obtain ⟨bz, hbz⟩ : ∃ bz, I z = .string bz := ⟨_, rfl⟩
    rw [hbz] at h2
    have Hbz := Lib.hid hbz
    have ht1 : ((t + 1 : Nat) : Int) - 1 = (t : Int) := by omega
    have hsml := Lib.hid (fun W (by' bx : Nat) (hY : Ext w2 W) (hby : W.cell? ⟨by', 0, none⟩ = some (.string bz)) (hbx : W.cell? ⟨bx, 0, none⟩ = some (.slice (some ⟨by', 0, none⟩) 1 1)) =>
      ssmall_any (w := W) (v := .slice (some ⟨bx, 0, none⟩) 1 1) (M := [[z]]) ⟨_, bx, 0, 1, [.slice (some ⟨by', 0, none⟩) 1 1], rfl, Nat.le_refl _, rfl, ⟨fun _ => rfl, fun i x hx => by
        have : i = 0 := by have := (List.getElem?_eq_some_iff.1 hx).1; simp at this; omega
        subst this
        simp only [List.getElem?_cons_zero, Option.some.injEq] at hx
        rw [← hx]; exact hbx⟩, fun i a bb' => by
        have : i = 0 := by simp at a; omega
        subst this
        exact ⟨some ⟨by', 0, none⟩, by', 0, 1, rfl, Nat.le_refl _, ⟨fun _ => rfl, fun i x hx => by
          have : i = 0 := by have := (List.getElem?_eq_some_iff.1 hx).1; simp [ss] at this; omega
          subst this
          have hx2 : (ss [z])[0]? = some x := hx
          have e : (ss [z])[0]? = some (I z) := rfl
          rw [e, Hbz.out] at hx2
          injection hx2 with hx2
          rw [← hx2]; exact hby⟩⟩⟩ (by simp) (fun r hr => by simp at hr; subst hr; simp) (fun r hr y hy => by simp at hr; subst hr; simp at hy; subst hy; exact Hnd.out) (HL.out.ext (hX2.trans hY)))
    clear hbz hel hW hE1 hE2 hg hdg
    go_wp2_with fail
    refine (hsml.out _ w2.heap.size (w2.heap.size + 1) (((Ext.refl _).alloc _).alloc _) (by go_simp) (by go_simp)).mono ?_
    rintro e w9 ⟨hp9, hE9⟩
    have hfin := hX2.trans (Ext.trans (((Ext.refl w2).alloc _).alloc _) hE9)
    rw [if_pos Hsm.out] at hp9
    obtain ⟨vr, rfl, hvr⟩ := hp9
    obtain ⟨vs9, hv1, hv2, hv3⟩ := hvr
    have h90 := hv3 0 (by simp) (by rw [hv1]; simp)
    rcases hv2.2 with ⟨_, h0'⟩ | ⟨g9, c9, cur9, rfl, _, _, hc9, _⟩
    · simp at h0'
    · have hc9' := World.ownsRow.cellAt hv2 0 (by simp)
      rw [List.getElem?_eq_getElem (by rw [hv1]; simp)] at hc9'
      simp only [List.length_singleton] at hc9 hc9'
      obtain ⟨rv, hrv⟩ : ∃ rv, rv = vs9[0]'(by rw [hv1]; simp) := ⟨_, rfl⟩
      rw [← hrv] at hc9' h90
      have hc10 : w9.cell? ⟨g9, 0, none⟩ = some rv := by simpa using hc9'
      have hrw : RowR w9 rv [z] := h90.row
      obtain ⟨s8, b8, o8, c8, hrv8, _, hS8⟩ := hrw
      have hz8 := hS8.cell 0 (.int .i64 z) rfl
      obtain rfl := hS8.addr (by simp [is])
      subst hrv8
      rw [Nat.add_zero] at hz8
      clear h90 hv1 hv2 hv3 hrv hc9' hS8 hsml h1 h2 hcA
      simp only [List.length_singleton] at hc10
      go_wp2_with fail
      go_ret3
      exact Hres.out _ _ rfl hfin
end Go.Proofs.YtokjolmpdfmnbaaGreatDoor
namespace Go.Proofs.YtokjolmpdfmnbaaGreatDoor
open Go.RowKit Go.Sort Hnf
def FacIs0 (M : Mx) (D : List Int) : Prop := (M.length = 0 ∨ ncols M = 0) ∧ D = [] ∨ (0 < M.length ∧ 0 < ncols M) ∧ FacIs M D
def OrdKB (M : Mx) (x : List Int) (kn : Int) (kb : Bool) : Prop :=
  ∀ j j', DvJ M M.length (ncols M) j → DvJ (M ++ [x]) (M.length + 1) x.length j' →
    (j ≠ j' → kn = 0 ∧ kb = false) ∧
    (j = j' → kb = true ∧ 1 ≤ kn ∧ kn ≤ 1000000000 ∧ kn = ((lastD M M.length (ncols M) j : Int)).tdiv (lastD (M ++ [x]) (M.length + 1) x.length j') ∧ ∀ D, FacIs0 M D → ¬ D.length < x.length → kn ∣ expN D x.length)
theorem dvj_ex (M : Mx) (n c : Nat) : ∃ j, DvJ M n c j := by
  have key : ∀ m j, n - j ≤ m → j ≤ n → j ≤ c → (∀ t, t < j → dvA M n c t ≠ 0) → ∃ j, DvJ M n c j := by
    intro m
    induction m with
    | zero => intro j h1 h2 h3 h4; exact ⟨j, h2, h3, h4, fun a _ => by omega⟩
    | succ m ih =>
      intro j h1 h2 h3 h4
      by_cases h : j < n ∧ j < c ∧ dvA M n c j ≠ 0
      · exact ih (j + 1) (by omega) (by omega) (by omega) fun t ht => by
          rcases Nat.lt_or_ge t j with a | a
          · exact h4 t a
          · obtain rfl : t = j := by omega
            exact h.2.2
      · exact ⟨j, h2, h3, h4, fun a b => Classical.byContradiction fun hne => h ⟨a, b, hne⟩⟩
  exact key n 0 (by omega) (by omega) (by omega) fun t ht => by omega
theorem lastD_pos {M : Mx} {n c j : Nat} (h : DvJ M n c j) : 0 < lastD M n c j := by
  unfold lastD
  split
  · omega
  · exact Nat.pos_of_ne_zero (h.2.2.1 _ (by omega))
theorem lastD_sm {M : Mx} (h : SmM M) {j : Nat} (hj : DvJ M M.length (ncols M) j) : lastD M M.length (ncols M) j ≤ 1000000000 := by
  unfold lastD
  split
  · omega
  · unfold dvA
    refine divAll_b (B := 9) (fun r hr z hz => by have := h.ent r hr z hz; omega) ?_ _
    have := h.n3
    have := hj.1
    rcases (show j = 1 ∨ j = 2 ∨ j = 3 by omega) with rfl | rfl | rfl <;> decide
theorem ord_sized {M : Mx} {x : List Int} (h : SmM M) (hx : x.length ≤ 3) (hb : ∀ z ∈ x, -40 ≤ z ∧ z ≤ 40) (hnc : M.length = 0 ∨ ncols M = x.length) : sizeE M x = 0 := by
  unfold sizeE
  rw [if_pos (sm_check h), if_pos (chkRow_small hx fun z hz => by have := hb z hz; omega), if_neg (by omega)]
theorem smx_none {M : Mx} {x : List Int} (h : M.length = 0 ∨ x.length = 0) (hnc : M.length = 0 ∨ ncols M = x.length) (hx3 : x.length ≤ 3) {j j' : Nat} (hj : DvJ M M.length (ncols M) j) (hj' : DvJ (M ++ [x]) (M.length + 1) x.length j') :
    j = 0 ∧ (j' = 0 ↔ ¬ ∃ z ∈ x, z ≠ 0) := by
  have hj0 : j = 0 := by have := hj.1; have := hj.2.1; omega
  refine ⟨hj0, ?_⟩
  by_cases hx : x.length = 0
  · have hn : x = [] := List.eq_nil_of_length_eq_zero hx
    have := hj'.2.1
    constructor
    · rintro _ ⟨z, hz, _⟩
      rw [hn] at hz; cases hz
    · intro _; omega
  · have hM : M = [] := List.eq_nil_of_length_eq_zero (by omega)
    subst hM
    have hR : Rect x.length ([] ++ [x]) := fun r hr => by simp at hr; rw [hr]
    have hd := fun g : Int => div1 (M := [] ++ [x]) (n := 0 + 1) (c := x.length) (by simp) hR (by omega) (by omega) g
    constructor
    · rintro e ⟨z, hz, hne⟩
      subst e
      have h0 := hj'.2.2.2 (by simp) (by omega)
      obtain ⟨i, hi, rfl⟩ := List.getElem_of_mem hz
      have := (hd 0).1 (by rw [show dvA ([] ++ [x]) (0 + 1) x.length 0 = 0 from h0]; exact Int.dvd_refl _) 0 i
      have e : eM ([] ++ [x]) 0 i = x[i] := by unfold eM; simp [hi]
      rw [e] at this
      exact hne (Int.zero_dvd.1 this)
    · intro hz
      refine Classical.byContradiction fun hne => hj'.2.2.1 0 (by omega) ?_
      have : (0 : Int) ∣ (dvA ([] ++ [x]) (0 + 1) x.length 0 : Int) := (hd 0).2 fun i k => by
        by_cases hi : i = 0
        · subst hi
          by_cases hk : k < x.length
          · have e : eM ([] ++ [x]) 0 k = x[k] := by unfold eM; simp [hk]
            rw [e]
            have : x[k] = 0 := Classical.byContradiction fun h' => hz ⟨_, List.getElem_mem hk, h'⟩
            rw [this]; exact Int.dvd_refl _
          · rw [el_col hR (by omega)]; exact Int.dvd_refl _
        · rw [el_row (by simp; omega)]; exact Int.dvd_refl _
      have := Int.zero_dvd.1 this
      have e : dvA ([] ++ [x]) (List.length ([] : Mx) + 1) x.length 0 = 0 := by
        show dvA ([] ++ [x]) (0 + 1) x.length 0 = 0
        omega
      exact e
set_option maxRecDepth 100000 in
theorem Order_u {w : World} {vm vb : Value} {M : Mx} {x : List Int} (hM : MatR w vm M) (hb : RowR w vb x) (h : SmM M) (hx3 : x.length ≤ 3) (hxb : ∀ z ∈ x, -40 ≤ z ∧ z ≤ 40) (hnc : M.length = 0 ∨ ncols M = x.length) (hL : Laid w) :
    Calls Tryz.prog 11 #[vm, vb] w fun e w' => ∃ kn kb, e = .returned (.tuple #[.int .i64 kn, .bool kb, .int .i64 0]) ∧ OrdKB M x kn kb ∧ Ext w w' := by
  have hs0 := ord_sized h hx3 hxb hnc
  by_cases h0 : M.length = 0 ∨ x.length = 0
  · refine (Order0_any hM hb hs0 h0 rfl hL).mono ?_
    rintro e w' ⟨hE, hp⟩
    by_cases hz : ∃ z ∈ x, z ≠ 0
    · rw [if_pos hz] at hp
      refine ⟨0, false, hp, fun j j' hj hj' => ⟨fun _ => ⟨rfl, rfl⟩, fun e => ?_⟩, hE⟩
      obtain ⟨a, b⟩ := smx_none h0 hnc hx3 hj hj'
      exact absurd hz (b.1 (by omega))
    · rw [if_neg hz] at hp
      refine ⟨1, true, hp, fun j j' hj hj' => ?_, hE⟩
      obtain ⟨a, b⟩ := smx_none h0 hnc hx3 hj hj'
      have := b.2 hz
      subst a this
      refine ⟨fun e => absurd rfl e, fun _ => ⟨rfl, by omega, by omega, ?_, fun D _ _ => Int.one_dvd _⟩⟩
      unfold lastD
      rw [if_pos rfl, if_pos rfl]; decide
  · have hnc' : ncols M = x.length := by omega
    have hk : 2 * (2 * bC M.length 30 (ncols M) + 2) + 2 < LIM := by
      have h1 := h.n3
      have h2 := h.c3
      rcases (show M.length = 0 ∨ M.length = 1 ∨ M.length = 2 ∨ M.length = 3 by omega) with e | e | e | e <;> rcases (show ncols M = 0 ∨ ncols M = 1 ∨ ncols M = 2 ∨ ncols M = 3 by omega) with g | g | g | g <;> rw [e, g] <;> decide
    refine (Order_any hM hb hs0 (by omega) rfl (by omega) hk (fun H hH => ord_bnd h.c3 (fun r hr z hz => h.ent r hr z hz) hH hnc'.symm hxb) hL).mono ?_
    rintro e w' ⟨H, hH, hE, s, k, hF, hp⟩
    have hall := fun j j' hj hj' => ord_all (M := M) (H := H) (b := x) h (by omega) (by omega) hnc'.symm hH hF (j := j) (j' := j') hj hj'
    rw [hnc'] at hall
    have hsl : s.length = x.length := by
      obtain ⟨⟨ps, hI⟩, _, _⟩ := id hH
      rw [hnc'] at hI
      exact (ord_lat hI rfl hF).1
    have hany : anyB (fun i => decide ((s.getD i (0, 1)).1 ≠ 0)) s.length = true ↔ ¬ ∀ i, (s.getD i (0, 1)).1 = 0 := by
      rw [anyB_iff]
      constructor
      · rintro ⟨i, hi, hd⟩ ha
        exact of_decide_eq_true hd (ha i)
      · intro ha
        refine Classical.byContradiction fun hc => ha fun i => Classical.byContradiction fun hne => ?_
        by_cases hi : i < s.length
        · exact hc ⟨i, hi, decide_eq_true hne⟩
        · refine hne ?_
          rw [List.getD_eq_getElem?_getD, List.getElem?_eq_none (by omega)]; rfl
    have hkb : ∀ j j', DvJ M M.length (ncols M) j → DvJ (M ++ [x]) (M.length + 1) x.length j' → j = j' → (1 ≤ (k : Int) ∧ (k : Int) ≤ 1000000000) ∧ (k : Int) = ((lastD M M.length (ncols M) j : Int)).tdiv (lastD (M ++ [x]) (M.length + 1) x.length j') := fun j j' hj hj' e => by
      rw [← hnc'] at hj' ⊢
      have ha := hall j j' (by rwa [← hnc']) (by rwa [← hnc'])
      have hq := ha.quot e
      have h1 := lastD_sm h hj
      have h2 : k ≤ lastD M M.length (ncols M) j := by rw [hq]; exact Nat.div_le_self _ _
      have h3 := ha.pos
      refine ⟨by omega, ?_⟩
      rw [Int.tdiv_eq_ediv_of_nonneg (Int.natCast_nonneg _), ← Int.natCast_ediv, ← hq]
    by_cases hf : ∀ i, (s.getD i (0, 1)).1 = 0
    · rw [if_neg (by rw [hany]; exact fun a => a hf)] at hp
      by_cases hsm : smallB [(k : Int)] = true
      · rw [if_pos hsm] at hp
        refine ⟨k, true, hp, fun j j' hj hj' => ?_, hE⟩
        have ha := hall j j' (by rwa [← hnc']) hj'
        have e := ha.found.1 hf
        obtain ⟨b1, b2⟩ := hkb j j' hj hj' e
        refine ⟨fun a => absurd e a, fun _ => ⟨rfl, b1.1, b1.2, b2, fun D hD hl => ?_⟩⟩
        rcases hD with ⟨a, _⟩ | ⟨_, a⟩
        · omega
        · have hDl : D.length = x.length := by
            obtain ⟨n, c, r, fin, hn3, hf', rfl⟩ := id a
            obtain ⟨_, rank, fin2, _, hf2, _⟩ := (h.smf (by omega) (by omega)).run
            have : diagL r fin.a = diagL rank fin2.a := a.uni ⟨_, _, rank, fin2, h.n3, hf2, rfl⟩ (Eqv.refl _)
            have e2 := congrArg List.length this
            rw [diagL_length, diagL_length] at e2
            have := hf2.rc
            rw [diagL_length] at hl ⊢
            omega
          have := ha.fin D a e (by rw [hnc']; exact hDl) (by omega)
          rw [hnc'] at this
          unfold expN
          rw [if_neg hl, if_neg (by omega)]
          exact this
      · exfalso
        obtain ⟨j, hj⟩ : ∃ j, DvJ M M.length (ncols M) j := dvj_ex _ _ _
        obtain ⟨j', hj'⟩ : ∃ j, DvJ (M ++ [x]) (M.length + 1) x.length j := dvj_ex _ _ _
        have ha := hall j j' (by rwa [← hnc']) hj'
        obtain ⟨b1, _⟩ := hkb j j' hj hj' (ha.found.1 hf)
        refine hsm ?_
        unfold smallB grt
        simp
        omega
    · rw [if_pos (hany.2 hf)] at hp
      refine ⟨0, false, hp, fun j j' hj hj' => ⟨fun _ => ⟨rfl, rfl⟩, fun e => ?_⟩, hE⟩
      have ha := hall j j' (by rwa [← hnc']) hj'
      exact absurd (ha.found.2 e) hf
theorem Exponent_u {w : World} {v : Value} {M : Mx} {n : Nat} (hM : MatR w v M) (h : SmM M) (hn : n ≤ 3) (hnc : M.length = 0 ∨ ncols M = n) (hL : Laid w) :
    Calls Tryz.prog 15 #[v, .int .i64 n] w fun e w' => ∃ D, FacIs0 M D ∧ e = .returned (.tuple #[.int .i64 (expN D n), .bool (expB D n), .int .i64 0]) ∧ Ext w w' := by
  have hck := sm_check h
  have hgr : groupE M n = 0 := by
    unfold groupE
    rw [if_pos hck, if_neg (by omega), if_neg (by omega)]
  by_cases h0 : M.length = 0 ∨ ncols M = 0
  · have hR : Rect 0 M := by
      rcases h0 with e | e
      · rw [List.eq_nil_of_length_eq_zero e]; intro r hr; cases hr
      · rw [← e]; exact h.rect
    refine (Exponent0_any hM hR h.n3 (by omega) hgr hL).mono ?_
    rintro e w' ⟨rfl, hE⟩
    exact ⟨[], .inl ⟨h0, rfl⟩, rfl, hE⟩
  · refine (Exponent08_any hM (h.smf (by omega) (by omega)) (by omega) hL).mono ?_
    rintro e w' ⟨D, hD, rfl, hE⟩
    exact ⟨D, .inr ⟨by omega, hD⟩, rfl, hE⟩
theorem more_dvm0 {M : Mx} {x : List Int} (h : SmM M) (hx3 : x.length ≤ 3) (hxb : ∀ z ∈ x, -40 ≤ z ∧ z ≤ 40) (hnc : M.length = 0 ∨ ncols M = x.length) : DvM (M ++ [x]) (M.length + 1) x.length 40 := by
  by_cases h0 : M.length = 0
  · have hM : M = [] := List.eq_nil_of_length_eq_zero h0
    subst hM
    refine ⟨rfl, rfl, fun r hr => by simp at hr; rw [hr], by simp, by omega, by omega, fun r hr z hz => ?_, fun k h1 h2 => ?_⟩
    · simp at hr; subst hr
      have := hxb z hz; omega
    · rcases (show k = 0 ∨ k = 1 by simp at h1; omega) with rfl | rfl <;> decide
  · have := more_dvm h (by omega) (by omega) hxb
    rwa [show ncols M = x.length by omega] at this
end Go.Proofs.YtokjolmpdfmnbaaGreatDoor
namespace Go.Proofs.YtokjolmpdfmnbaaGreatDoor
open Go.RowKit Go.Sort
set_option maxRecDepth 100000 in
set_option maxHeartbeats 8000000 in
theorem os_walk {w : World} {R C : Nat} {e0 e1 e2 e3 e4 e5 e6 e7 e8 z0 z1 z2 : Int} (hG : ShapeV #[.int .u8 R, .int .u8 C, .int .i8 e0, .int .i8 e1, .int .i8 e2, .int .i8 e3, .int .i8 e4, .int .i8 e5, .int .i8 e6, .int .i8 e7, .int .i8 e8] R C [e0, e1, e2, e3, e4, e5, e6, e7, e8])
    (h0 : -128 ≤ z0 ∧ z0 ≤ 127) (h1 : -128 ≤ z1 ∧ z1 ≤ 127) (h2 : -128 ≤ z2 ∧ z2 ≤ 127) (hL : Laid w) :
    Calls Tryz.prog 3 #[.agg #[.int .u8 R, .int .u8 C, .int .i8 e0, .int .i8 e1, .int .i8 e2, .int .i8 e3, .int .i8 e4, .int .i8 e5, .int .i8 e6, .int .i8 e7, .int .i8 e8], .agg #[.int .i8 z0, .int .i8 z1, .int .i8 z2]] w fun e w' => e = .returned (.bool true) ∧ Ext w w' := by
  have HL := Lib.hid hL
  have hC8 := hG.c8
  obtain ⟨M, hMd⟩ : ∃ M, M = shM [e0, e1, e2, e3, e4, e5, e6, e7, e8] (C % 4) (R % 4) := ⟨_, rfl⟩
  have hmk := Lib.hid (fun W => Make08_any (w := W) hG)
  rw [← hMd] at hmk
  have hSm : SmM M := by rw [hMd]; exact sh_small _ _ _
  obtain ⟨n, hn⟩ : ∃ n, n = C % 4 := ⟨_, rfl⟩
  have hn3 : n ≤ 3 := by omega
  have hnI : (C : Int) % 4 = (n : Int) := by omega
  have hnc : M.length = 0 ∨ ncols M = n := by
    rcases Nat.eq_zero_or_pos M.length with h | h
    · exact .inl h
    · right; rw [hn]; exact ncols_of h (by rw [hMd]; exact shM_rect _ _ _)
  obtain ⟨N, hN⟩ : ∃ N, N = M.length := ⟨_, rfl⟩
  have hN3 : N ≤ 3 := by rw [hN]; exact hSm.n3
  have hrw := Lib.hid (fun W => Row08_any (w := W) (n := n) hn3 h0 h1 h2)
  obtain ⟨x, hx⟩ : ∃ x, x = row8 [z0, z1, z2] n := ⟨_, rfl⟩
  rw [← hx] at hrw
  have hxl : x.length = n := by rw [hx, row8_length (by simpa using hn3)]
  have hxb : ∀ z ∈ x, -40 ≤ z ∧ z ≤ 40 := by rw [hx]; exact row8_b
  have hnc' : M.length = 0 ∨ ncols M = x.length := by rw [hxl]; exact hnc
  have hor := Lib.hid (fun W vm vb (a : MatR W vm M) (r : RowR W vb x) (hL : Laid W) => Order_u a r hSm (by omega) hxb hnc' hL)
  have hex := Lib.hid (fun W vm (a : MatR W vm M) (hL : Laid W) => Exponent_u a hSm hn3 hnc hL)
  have hwi := Lib.hid (fun W vm vb (a : MatR W vm M) (r : RowR W vb x) => With08_any a r (by omega))
  have hda := Lib.hid (fun W vm (a : MatR W vm M) => Divisors08_any a (sm_dvm hSm))
  have hdb := Lib.hid (fun W vm (a : MatR W vm (M ++ [x])) => Divisors08_any a (more_dvm0 hSm (by omega) hxb hnc'))
  have hla := Lib.hid (fun W vm (a : MatR W vm M) => Last08_any a (sm_dvm hSm))
  have hlb := Lib.hid (fun W vm (a : MatR W vm (M ++ [x])) => Last08_any a (more_dvm0 hSm (by omega) hxb hnc'))
  have Hxl := Lib.hid hxl
  have HN := Lib.hid hN
  clear hG h0 h1 h2 hL hMd hSm hn hnc hnc' hN hx hxl hxb
  go_enter Tryz.func3, Tryz.ntmps3
  have hX : Ext w ((w.alloc (.cells #[.int .u8 R, .int .u8 C, .int .i8 e0, .int .i8 e1, .int .i8 e2, .int .i8 e3, .int .i8 e4, .int .i8 e5, .int .i8 e6, .int .i8 e7, .int .i8 e8] 25)).alloc (.cells #[.int .i8 z0, .int .i8 z1, .int .i8 z2] 26)) := ((Ext.refl w).alloc _).alloc _
  go_wp2_with fail
  refine (known08_any (HL.out.ext hX)).mono ?_
  rintro e w1 ⟨rfl, hE1⟩
  have s0 : w1.cell? ⟨w.heap.size, 0, none⟩ = some (.int .u8 R) := hE1.cell (by go_simp)
  have s1 : w1.cell? ⟨w.heap.size, 1, none⟩ = some (.int .u8 C) := hE1.cell (by go_simp)
  have s2 : w1.cell? ⟨w.heap.size, 2, none⟩ = some (.int .i8 e0) := hE1.cell (by go_simp)
  have s3 : w1.cell? ⟨w.heap.size, 3, none⟩ = some (.int .i8 e1) := hE1.cell (by go_simp)
  have s4 : w1.cell? ⟨w.heap.size, 4, none⟩ = some (.int .i8 e2) := hE1.cell (by go_simp)
  have s5 : w1.cell? ⟨w.heap.size, 5, none⟩ = some (.int .i8 e3) := hE1.cell (by go_simp)
  have s6 : w1.cell? ⟨w.heap.size, 6, none⟩ = some (.int .i8 e4) := hE1.cell (by go_simp)
  have s7 : w1.cell? ⟨w.heap.size, 7, none⟩ = some (.int .i8 e5) := hE1.cell (by go_simp)
  have s8 : w1.cell? ⟨w.heap.size, 8, none⟩ = some (.int .i8 e6) := hE1.cell (by go_simp)
  have s9 : w1.cell? ⟨w.heap.size, 9, none⟩ = some (.int .i8 e7) := hE1.cell (by go_simp)
  have s10 : w1.cell? ⟨w.heap.size, 10, none⟩ = some (.int .i8 e8) := hE1.cell (by go_simp)
  have t0 : w1.cell? ⟨w.heap.size + 1, 0, none⟩ = some (.int .i8 z0) := hE1.cell (by go_simp)
  have t1 : w1.cell? ⟨w.heap.size + 1, 1, none⟩ = some (.int .i8 z1) := hE1.cell (by go_simp)
  have t2 : w1.cell? ⟨w.heap.size + 1, 2, none⟩ = some (.int .i8 z2) := hE1.cell (by go_simp)
  have hX1 := hX.trans hE1
  clear hX hE1
  go_wp2_with fail
  refine (hmk.out w1).mono ?_
  rintro e w2 ⟨vm, rfl, hvm, hE2⟩
  have hMr := hvm.mat
  obtain ⟨sm, gm, om, cm, vsm, rfl, hcm, _, _, _⟩ := id hMr
  rw [← HN.out] at hMr ⊢
  have HMr := Lib.hid hMr
  replace s1 := hE2.cell s1
  replace t0 := hE2.cell t0
  replace t1 := hE2.cell t1
  replace t2 := hE2.cell t2
  have hX2 := hX1.trans hE2
  clear s0 s2 s3 s4 s5 s6 s7 s8 s9 s10 hvm hMr hE2 hX1 hmk
  go_wp2_with fail
  refine (hrw.out w2).mono ?_
  rintro e w3 ⟨vx, rfl, hvx, hE3⟩
  have hRx := hvx.row
  obtain ⟨sx, gx, ox, cx, rfl, hcx, _⟩ := id hRx
  rw [Hxl.out] at hRx ⊢
  have HX := Lib.hid hRx
  have hX3 := hX2.trans hE3
  replace HMr := Lib.hid (HMr.out.ext hE3)
  clear s1 t0 t1 t2 hvx hRx hE3 hX2 hrw hcx
  go_wp2_with fail
  refine (hor.out _ _ _ HMr.out HX.out (HL.out.ext hX3)).mono ?_
  rintro e w4 ⟨kn, kb, rfl, hKB, hE4⟩
  have HKB := Lib.hid hKB
  have hX4 := hX3.trans hE4
  replace HMr := Lib.hid (HMr.out.ext hE4)
  replace HX := Lib.hid (HX.out.ext hE4)
  clear hKB hE4 hX3 hor
  go_wp2_with fail
  refine (hwi.out _ _ _ HMr.out HX.out).mono ?_
  rintro e w5 ⟨vw, rfl, hvw, hE5⟩
  obtain ⟨sw, gw, ow, cw, vsw, rfl, hcw, _, _, _⟩ := id hvw
  have HW := Lib.hid hvw
  have hX5 := hX4.trans hE5
  replace HMr := Lib.hid (HMr.out.ext hE5)
  have hlw : (M ++ [x]).length = N + 1 := by rw [List.length_append, HN.out]; rfl
  rw [hlw] at hcw HW ⊢
  clear hvw hE5 hX4 hwi HX hlw hcw
  go_wp2_with fail
  refine (hda.out _ _ HMr.out).mono ?_
  rintro e w6 ⟨ua, rfl, ⟨j, hua, hj⟩, hE6⟩
  obtain ⟨sa, ga, oa, ca, rfl, hca, _⟩ := hua.row
  rw [dvl_length] at hca ⊢
  have Hj := Lib.hid hj
  have hj1 := hj.1
  have hX6 := hX5.trans hE6
  replace HMr := Lib.hid (HMr.out.ext hE6)
  replace HW := Lib.hid (HW.out.ext hE6)
  clear hua hj hE6 hX5 hda
  go_wp2_with fail
  refine (hdb.out _ _ HW.out).mono ?_
  rintro e w7 ⟨ub, rfl, ⟨j', hub, hj'⟩, hE7⟩
  obtain ⟨sb, gb, ob, cb, rfl, hcb, _⟩ := hub.row
  rw [dvl_length] at hcb ⊢
  have Hj' := Lib.hid hj'
  have hX7 := hX6.trans hE7
  replace HMr := Lib.hid (HMr.out.ext hE7)
  replace HW := Lib.hid (HW.out.ext hE7)
  clear hub hj' hE7 hX6 hdb
  obtain ⟨kc, kd⟩ := HKB.out j j' Hj.out Hj'.out
  by_cases hjj : j = j'
  · obtain ⟨rfl, k1, k2, k3, k4⟩ := kd hjj
    have Hk4 := Lib.hid k4
    have Hk3 := Lib.hid k3
    subst hjj
    have hx1 : ¬ kn < 1 := by omega
    have hx0 : ¬ kn = 0 := by omega
    clear k3 k4 kc kd HKB
    go_wp2_with fail
    refine (hla.out _ _ HMr.out).mono ?_
    rintro e w8 ⟨ja, hja, rfl, hE8⟩
    obtain rfl := DvJ.uniq Hj.out hja
    have hX8 := hX7.trans hE8
    replace HMr := Lib.hid (HMr.out.ext hE8)
    replace HW := Lib.hid (HW.out.ext hE8)
    obtain ⟨da, hda⟩ : ∃ da, da = lastD M M.length (ncols M) j := ⟨_, rfl⟩
    rw [← hda] at Hk3 ⊢
    clear hja hE8 hX7 hla hda
    go_wp2_with fail
    refine (hlb.out _ _ HW.out).mono ?_
    rintro e w9 ⟨jb, hjb, rfl, hE9⟩
    obtain rfl := DvJ.uniq Hj'.out hjb
    have hX9 := hX8.trans hE9
    replace HMr := Lib.hid (HMr.out.ext hE9)
    have hpb := lastD_pos Hj'.out
    obtain ⟨db, hdb⟩ : ∃ db, db = lastD (M ++ [x]) (M.length + 1) x.length j := ⟨_, rfl⟩
    rw [← hdb] at Hk3 hpb ⊢
    have hd0 : ¬ (db : Int) = 0 := by omega
    have hdq : (da : Int).tdiv (db : Int) = kn := Hk3.out.symm
    have hwq : IntKind.i64.wrap kn = kn := IntWalk.i64_in _ (by omega)
    clear hjb hE9 hX8 hlb hdb hpb Hk3
    go_wp2_with fail
    refine (hex.out _ _ HMr.out (HL.out.ext hX9)).mono ?_
    rintro e w10 ⟨D, hD, rfl, hE10⟩
    have hX10 := hX9.trans hE10
    cases hB : expB D n
    · clear hdq hwq hd0 hex hE10 hX9
      go_wp2_with fail
      go_ret
      exact ⟨rfl, hX10⟩
    · have hdl : ¬ D.length < x.length := by
        rw [Hxl.out]
        unfold expB at hB
        simpa using hB
      have hdv := Hk4.out D hD hdl
      rw [Hxl.out] at hdv
      obtain ⟨K, hK⟩ : ∃ K, K = expN D n := ⟨_, rfl⟩
      rw [← hK] at hdv ⊢
      have hmod : K.tmod kn = 0 := Int.tmod_eq_zero_of_dvd hdv
      clear hdq hwq hd0 hex hE10 hX9 hdl hdv hB hK
      go_wp2_with fail
      go_ret
      exact ⟨rfl, hX10⟩
  · obtain ⟨rfl, rfl⟩ := kc hjj
    have hjI : ¬ (j : Int) = (j' : Int) := by omega
    have hjb : ((j : Int) == (j' : Int)) = false := beq_eq_false_iff_ne.2 hjI
    clear kc kd HKB hjj
    go_wp2_with fail
    go_ret
    exact ⟨rfl, hX7⟩
end Go.Proofs.YtokjolmpdfmnbaaGreatDoor
namespace Go.Proofs.YtokjolmpdfmnbaaGreatDoor
open Go.ChangeShapes Go.WideShapes Go.ChangeAt Go.WideMaps Go.WideElems Go.RowKit Go.Deep
theorem fr_own : ownKnob Tryz.prog.godebug = none := by kernel_rfl
theorem fr_laidOut : laidOutB Tryz.prog = true := by kernel_rfl
theorem fr_pow : Tryz.prog.globalNamed "internal/strconv.uint64pow10" = some 3 := by kernel_rfl
theorem fr_powT : (Tryz.prog.globals[3]?).map (·.type) = some 265 := by kernel_rfl
theorem fr_rng : Tryz.prog.globalNamed "strconv.ErrRange" = some 2 := by kernel_rfl
theorem fr_rngT : (Tryz.prog.globals[2]?).map (·.type) = some 183 := by kernel_rfl
theorem fr_c20 : Tryz.prog.cellsOf 265 = 20 := by kernel_rfl
theorem fr_cu : Tryz.prog.cellsOf 214 = 1 := by kernel_rfl
theorem fr_cE : Tryz.prog.cellsOf 270 = 1 := by kernel_rfl
theorem fr_cS : Tryz.prog.cellsOf 9 = 1 := by kernel_rfl
theorem fr_star : "*" ++ "errors.errorString" = "*errors.errorString" := by decide
theorem fr_ptr (u : TypeId) (h : Tryz.prog.typeName? 3 u = some "*errors.errorString") : u = 268 :=
  typeName_ptr_named (nm := "errors.errorString") (by rw [fr_star]; kernel_rfl) (by kernel_rfl) (by decide) u (by rw [fr_star]; exact h)
abbrev fr_list : List (String × DataW Unit) := [("math/bits.deBruijn32tab", Rows.laid_math_bits_deBruijn32tab), ("math/bits.deBruijn64tab", Rows.laid_math_bits_deBruijn64tab), ("internal/strconv.uint64pow10", Rows.laid_internal_strconv_uint64pow10), ("strconv.ErrRange", Rows.laid_strconv_ErrRange), ("strconv.ErrSyntax", Rows.laid_strconv_ErrSyntax)]
theorem fr_tab : (Rows.laid_internal_strconv_uint64pow10 : DataW Unit) = Lib.tabData .u64 Lib.pow10Tab := by kernel_rfl
theorem laid_of {W : World} (h : laidMetH Tryz.prog fr_list W) : Laid W := by
  rw [MakeChecks.laidMetH_plain _ _ _ (by kernel_rfl)] at h
  have h3 := h.tail.tail
  rw [fr_tab] at h3
  refine ⟨Lib.tabIs_of_head fr_pow fr_powT Tryz.underlying265 Tryz.underlying214 fr_cu fr_c20 h3, ?_⟩
  obtain ⟨a, s, hv, _⟩ := laid_sentinel h3.tail fr_rng fr_rngT Tryz.underlying183 fr_ptr Tryz.underlying268 Tryz.underlying270 rfl rfl Tryz.underlying9 fr_cE fr_cS
  exact ⟨_, _, hv⟩
theorem door_met (os : Os) (args : Array Value) : laidMetH Tryz.prog fr_list ((World.doorLaid Tryz.prog 400 os).forCall (fun _ _ => 0) ⟨#[], args, []⟩).memory :=
  laidMetH_of_parts3 (fuel := 8) (laidMet_of_run' 8 (by kernel_rfl) (by kernel_rfl)) (by kernel_rfl) (by kernel_rfl)
end Go.Proofs.YtokjolmpdfmnbaaGreatDoor
namespace Go.Proofs.YtokjolmpdfmnbaaGreatDoor
open Go.ChangeShapes Go.WideShapes Go.ChangeAt Go.WideMaps Go.WideElems Go.RowKit Go.Deep
theorem fr_c8 : Tryz.prog.cellsOf 22 = 1 := by kernel_rfl
theorem take_one {l : List Value} {k : Nat} {x : Value} (h : (l.drop k).take 1 = [x]) : l[k]? = some x := by
  have := congrArg (·[0]?) h
  simpa [List.getElem?_take] using this
theorem i8_bounds {n : Int} (h : (Lit.int .i8 n).wf = true) : -128 ≤ n ∧ n ≤ 127 := by
  simp only [Lit.wf, Bool.and_eq_true, decide_eq_true_eq] at h
  have e1 : IntKind.i8.min = -128 := by rfl
  have e2 : IntKind.i8.max = 127 := by rfl
  omega
theorem u8_bounds {n : Int} (h : (Lit.int .u8 n).wf = true) : 0 ≤ n ∧ n ≤ 255 := by
  simp only [Lit.wf, Bool.and_eq_true, decide_eq_true_eq] at h
  have e1 : IntKind.u8.min = 0 := by rfl
  have e2 : IntKind.u8.max = 255 := by rfl
  omega
theorem i8_cells {H : Type} {enc : TypeId × Value → H} {W : World} {base : Nat} {sp : Nat → Bool} {held : Bool} {fuel n : Nat} {t : TypeId} {l : List Value} {x : DataW H × List MemPlace} (ht : Tryz.prog.underlying t = some (.array n 22))
    (h : DataW.trod enc Tryz.prog W base sp held fuel t l = some x) : ∀ j, j < n → ∃ z : Int, l[j]? = some (.int .i8 z) ∧ -128 ≤ z ∧ z ≤ 127 := by
  obtain ⟨xs, m, _, _, _, hxl, hx⟩ := DataW.trod_array ht h
  intro j hj
  have h1 := hx j hj
  rw [fr_c8, Nat.mul_one, List.getElem?_eq_getElem (by omega)] at h1
  obtain ⟨z, hz, _, hw⟩ := DataW.trod_int Tryz.underlying22 h1
  exact ⟨z, take_one hz, i8_bounds hw⟩
end Go.Proofs.YtokjolmpdfmnbaaGreatDoor
namespace Go.Proofs.YtokjolmpdfmnbaaGreatDoor
open Go.ChangeShapes Go.WideShapes Go.ChangeAt Go.WideMaps Go.WideElems Go.RowKit Go.Deep
theorem fr_cSh : Tryz.prog.cellsOf 25 = 11 := by kernel_rfl
theorem okWide_arr {P : Program} {w : World} {r : Reach} {base : Nat} {t e : TypeId} {n : Nat} {v : Value} (ht : P.underlying t = some (.array n e)) (h : Value.okWide P w r base t v) : ∃ cs, v = .agg cs ∧ cs.size = P.cellsOf t := by
  simp only [Value.okWide, ht] at h
  obtain ⟨cs, h1, h2, _⟩ := h
  exact ⟨cs, h1, h2⟩
theorem list11s {l : List Value} {a b c d e f g h i j k : Value} (hl : l.length = 11) (h0 : l[0]? = some a) (h1 : l[1]? = some b) (h2 : l[2]? = some c) (h3 : l[3]? = some d) (h4 : l[4]? = some e) (h5 : l[5]? = some f) (h6 : l[6]? = some g) (h7 : l[7]? = some h) (h8 : l[8]? = some i) (h9 : l[9]? = some j) (h10 : l[10]? = some k) : l = [a, b, c, d, e, f, g, h, i, j, k] := by
  refine List.ext_getElem? fun n => ?_
  match n with
  | 0 => exact h0
  | 1 => exact h1
  | 2 => exact h2
  | 3 => exact h3
  | 4 => exact h4
  | 5 => exact h5
  | 6 => exact h6
  | 7 => exact h7
  | 8 => exact h8
  | 9 => exact h9
  | 10 => exact h10
  | n + 11 => rw [List.getElem?_eq_none (by omega), List.getElem?_eq_none (by simp)]
set_option maxRecDepth 100000 in
theorem shape_open {H : Type} {enc : TypeId × Value → H} {W : World} {base : Nat} {sp : Nat → Bool} {held : Bool} {fuel : Nat} {cs : Array Value} {x : DataW H × List MemPlace} (hs : cs.size = 11)
    (h : DataW.trod enc Tryz.prog W base sp held fuel 25 cs.toList = some x) : ∃ (R C : Nat) (e0 e1 e2 e3 e4 e5 e6 e7 e8 : Int), cs = #[.int .u8 R, .int .u8 C, .int .i8 e0, .int .i8 e1, .int .i8 e2, .int .i8 e3, .int .i8 e4, .int .i8 e5, .int .i8 e6, .int .i8 e7, .int .i8 e8] ∧
      ShapeV #[.int .u8 R, .int .u8 C, .int .i8 e0, .int .i8 e1, .int .i8 e2, .int .i8 e3, .int .i8 e4, .int .i8 e5, .int .i8 e6, .int .i8 e7, .int .i8 e8] R C [e0, e1, e2, e3, e4, e5, e6, e7, e8] := by
  obtain ⟨xs, n, _, _, _, hxl, hx⟩ := DataW.trod_struct Tryz.underlying25 h
  have hx3 : xs.length = 3 := hxl
  have h0 := hx 0 _ rfl
  have h1 := hx 1 _ rfl
  have h2 := hx 2 _ rfl
  rw [List.getElem?_eq_getElem (by omega)] at h0 h1 h2
  have h0' : DataW.trod enc Tryz.prog W base sp held n 5 ((cs.toList.drop 0).take 1) = some xs[0] := h0
  have h1' : DataW.trod enc Tryz.prog W base sp held n 5 ((cs.toList.drop 1).take 1) = some xs[1] := h1
  have h2' : DataW.trod enc Tryz.prog W base sp held n 23 ((cs.toList.drop 2).take 9) = some xs[2] := h2
  obtain ⟨a, ha, _, wa⟩ := DataW.trod_int Tryz.underlying5 h0'
  obtain ⟨b, hb, _, wb⟩ := DataW.trod_int Tryz.underlying5 h1'
  have e2 := i8_cells Tryz.underlying23 h2'
  have ba := u8_bounds wa
  have bb := u8_bounds wb
  obtain ⟨z0, k0, b0⟩ := e2 0 (by omega)
  obtain ⟨z1, k1, b1⟩ := e2 1 (by omega)
  obtain ⟨z2, k2, b2⟩ := e2 2 (by omega)
  obtain ⟨z3, k3, b3⟩ := e2 3 (by omega)
  obtain ⟨z4, k4, b4⟩ := e2 4 (by omega)
  obtain ⟨z5, k5, b5⟩ := e2 5 (by omega)
  obtain ⟨z6, k6, b6⟩ := e2 6 (by omega)
  obtain ⟨z7, k7, b7⟩ := e2 7 (by omega)
  obtain ⟨z8, k8, b8⟩ := e2 8 (by omega)
  obtain ⟨R, rfl⟩ : ∃ R : Nat, a = (R : Int) := ⟨a.toNat, by omega⟩
  obtain ⟨C, rfl⟩ : ∃ C : Nat, b = (C : Int) := ⟨b.toNat, by omega⟩
  have hl : cs.toList.length = 11 := by simpa using hs
  have g0 : cs.toList[0]? = some (.int .u8 R) := by
    have := congrArg (fun l : List Value => l[0]?) ha; simpa using this
  have g1 : cs.toList[1]? = some (.int .u8 C) := by
    have := congrArg (fun l : List Value => l[0]?) hb; simpa using this
  have hcs : cs.toList = [.int .u8 R, .int .u8 C, .int .i8 z0, .int .i8 z1, .int .i8 z2, .int .i8 z3, .int .i8 z4, .int .i8 z5, .int .i8 z6, .int .i8 z7, .int .i8 z8] :=
    list11s hl g0 g1 (by simpa using k0) (by simpa using k1) (by simpa using k2) (by simpa using k3) (by simpa using k4) (by simpa using k5) (by simpa using k6) (by simpa using k7) (by simpa using k8)
  refine ⟨R, C, z0, z1, z2, z3, z4, z5, z6, z7, z8, by rw [← Array.toArray_toList (xs := cs), hcs], ⟨rfl, rfl, rfl, rfl, fun j hj => ?_, fun j hj => ?_, by omega, by omega⟩⟩
  · rcases (show j = 0 ∨ j = 1 ∨ j = 2 ∨ j = 3 ∨ j = 4 ∨ j = 5 ∨ j = 6 ∨ j = 7 ∨ j = 8 by omega) with rfl | rfl | rfl | rfl | rfl | rfl | rfl | rfl | rfl <;> rfl
  · rcases (show j = 0 ∨ j = 1 ∨ j = 2 ∨ j = 3 ∨ j = 4 ∨ j = 5 ∨ j = 6 ∨ j = 7 ∨ j = 8 by omega) with rfl | rfl | rfl | rfl | rfl | rfl | rfl | rfl | rfl <;> assumption
end Go.Proofs.YtokjolmpdfmnbaaGreatDoor
