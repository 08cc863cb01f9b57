/- Part 2, beside the shared parts, of the proof of the claim: contracts and plain laws; no condition. -/
import Derived.Test.YtkjnjmihfonilaaGreatDoorV01
import Derived.Test.YtkjnjmihfonilaaGreatDoorV02
import Derived.Test.YtkjnjmihfonilaaGreatDoorV03
import Derived.Test.YtkjnjmihfonilaaGreatDoorV04
import Derived.Test.YtkjnjmihfonilaaGreatDoorV05
import Derived.Test.YtkjnjmihfonilaaGreatDoorV06
import Derived.Test.YtkjnjmihfonilaaGreatDoorV07
import Derived.Test.YtkjnjmihfonilaaGreatDoorV08
import Derived.Test.YtkjnjmihfonilaaGreatDoorV09
import Derived.Test.YtkjnjmihfonilaaGreatDoorV10
import Derived.Test.YtkjnjmihfonilaaGreatDoorV11
import Derived.Test.YtkjnjmihfonilaaGreatDoorV12
import Derived.Test.YtkjnjmihfonilaaGreatDoorV13
import Derived.Test.YtkjnjmihfonilaaGreatDoorV14
import Derived.Test.YtkjnjmihfonilaaGreatDoorV15
import Derived.Test.YtkjnjmihfonilaaGreatDoorV16
import Derived.Test.YtkjnjmihfonilaaGreatDoorV17
import Derived.Test.YtkjnjmihfonilaaGreatDoorV18
import Derived.Test.YtkjnjmihfonilaaGreatDoorV19
import Derived.Test.YtkjnjmihfonilaaGreatDoorV20
import Derived.Test.YtkjnjmihfonilaaGreatDoorV21
import Derived.Test.YtkjnjmihfonilaaGreatDoorV22
import Derived.Test.YtkjnjmihfonilaaGreatDoorV23
import Derived.Test.YtkjnjmihfonilaaGreatDoorV24
import Derived.Test.YtkjnjmihfonilaaGreatDoorV25
import Derived.Test.YtkjnjmihfonilaaGreatDoorV26
import Derived.Test.YtkjnjmihfonilaaGreatDoorV27
import Derived.Test.YtkjnjmihfonilaaGreatDoorV28
import Derived.Test.YtkjnjmihfonilaaGreatDoorV29
import Derived.Test.YtkjnjmihfonilaaGreatDoorV30
import Derived.Test.YtkjnjmihfonilaaGreatDoorY01
import Derived.BigQuiet
import Derived.RangeFuncBox
namespace Go.Proofs.YtkjnjmihfonilaaGreatDoor
open Go.RowKit Go.Sort
structure MulCap (w : World) (pa pb pc : Nat) (r : List Int) (B : Mx) (c : Nat) : Prop where
  a : ∃ s k, w.cell? ⟨pa, 0, none⟩ = some (.slice s r.length k) ∧ RowR w (.slice s r.length k) r
  b : ∃ s k, w.cell? ⟨pb, 0, none⟩ = some (.slice s B.length k) ∧ MatR w (.slice s B.length k) B
  c : w.cell? ⟨pc, 0, none⟩ = some (.int .i64 c)
theorem MulCap.ext {w w' : World} {pa pb pc : Nat} {r : List Int} {B : Mx} {c : Nat} (h : MulCap w pa pb pc r B c) (he : Ext w w') : MulCap w' pa pb pc r B c := by
  obtain ⟨⟨s, k, h1, h2⟩, ⟨s', k', h3, h4⟩, h5⟩ := h
  exact ⟨⟨s, k, he.cell h1, h2.ext he⟩, ⟨s', k', he.cell h3, h4.ext he⟩, he.cell h5⟩
set_option maxRecDepth 100000 in
set_option maxHeartbeats 4000000 in
theorem mulC_any {w : World} {pa pb pc : Nat} {r : List Int} {B : Mx} {c k n : Nat} (h : MulCap w pa pb pc r B c) (hR : Rect n B) (hc : c < n) (hk : k < r.length) (hkB : k < B.length) :
    Calls Tryz.prog 61 #[.int .i64 k, .pointer (some ⟨pa, 0, none⟩), .pointer (some ⟨pb, 0, none⟩), .pointer (some ⟨pc, 0, none⟩)] w fun e w' => e = .returned (.tuple #[.int .i64 (r.getD k 0), .int .i64 (eM B k c)]) ∧ Ext w w' := by
  obtain ⟨⟨s, ck, h1, h2⟩, ⟨s', ck', h3, h4⟩, h5⟩ := h
  obtain ⟨_, ga, oa, ca, ea, _, hSa⟩ := h2
  injection ea with u1 _ u3
  subst u1 u3
  obtain ⟨_, gb, ob, cb, vs, eb, _, hvl, hSb, hrb⟩ := h4
  injection eb with u1 _ u3
  subst u1 u3
  obtain ⟨sr, br, or, cr, hrow, hrc, hSr⟩ := MatR.row hSb hvl hrb hkB
  have hrl : B[k].length = n := hR _ (List.getElem_mem hkB)
  have hcz := hSr.cell c (.int .i64 (eM B k c)) (by
    unfold eM
    rw [getD_get hkB, getD_get (by rw [hrl]; exact hc)]; exact is_get _)
  have hca := hSa.cell k (.int .i64 (r.getD k 0)) (by rw [getD_get hk]; exact is_get hk)
  obtain rfl := hSa.addr (by rw [is_length]; omega)
  obtain rfl := hSb.addr (by omega)
  obtain rfl := hSr.addr (by rw [is_length, hrl]; omega)
  rw [hrl] at hrow
  have i1 : (k : Int) < (r.length : Int) := by omega
  have i2 : (k : Int) < (B.length : Int) := by omega
  have i3 : (c : Int) < (n : Int) := by omega
  have k1 := cell_regrown h1
  have k2 := cell_regrown h3
  have k3 := cell_regrown h5
  have k4 := cell_regrown hrow
  have k5 := cell_regrown hcz
  have k6 := cell_regrown hca
  clear hSa hSb hSr hrb hrc hvl hrl hk hkB hc hR
  generalize r.getD k 0 = x at *
  generalize eM B k c = y at *
  generalize r.length = nr at *
  generalize B.length = nb at *
  go_enter Tryz.func61, Tryz.ntmps61
  go_wp2_with fail
  refine wp_region_quiet_below (by kernel_rfl) (by kernel_rfl) ?_
  repeat (quiet_step (fail))
  refine wpQuiet_nil ?_
  intro _ hw'
  obtain ⟨⟨dq, osq⟩, hw''⟩ := hw'
  subst hw''
  have hE5 := ext_regrown w dq osq
  clear k1 k2 k3 k4 k5 k6
  generalize grow (redrawn w dq) osq = w5 at *
  go_wp2_with fail
  go_ret2
  exact ⟨rfl, hE5⟩
def dotC (r : List Int) (B : Mx) (c : Nat) (k : Nat) : Int := sumZ (fun i => r.getD i 0 * eM B i c) k
theorem eM_bd9 {B : Mx} (h : SmK B) (k c : Nat) : -1000000000 ≤ eM B k c ∧ eM B k c ≤ 1000000000 := by
  unfold eM
  rcases Nat.lt_or_ge k B.length with hk | hk
  · rw [getD_get hk]; exact getD_bd9 (h _ (List.getElem_mem hk)) c
  · rw [List.getD_eq_getElem?_getD (l := B), List.getElem?_eq_none hk]; simp
theorem dotC_b {r : List Int} {B : Mx} (hr : ∀ z ∈ r, -1000000000 ≤ z ∧ z ≤ 1000000000) (hB : SmK B) {c k : Nat} (hk : k ≤ 64) : nd (dotC r B c k) ≤ 67 := by
  have := tmp_b (f := fun i => r.getD i 0 * eM B i c) (fun i => prod_b (getD_bd9 hr i) (eM_bd9 hB i c)) k
  refine nd_b66 ?_
  unfold dotC
  omega
def DotPost (w : World) (z : Int) (e : Ending) (w' : World) : Prop :=
  Ext w w' ∧ ((grt z = false ∧ e = .returned (.tuple #[.int .i64 z, .bool true])) ∨ (grt z = true ∧ ∃ y, e = .returned (.tuple #[.int .i64 y, .bool false])))
set_option maxRecDepth 100000 in
set_option maxHeartbeats 4000000 in
theorem dot_any {w : World} {pa pb pc : Nat} {r : List Int} {B : Mx} {c n : Nat} (h : MulCap w pa pb pc r B c) (hR : Rect n B) (hc : c < n) (hl : r.length = B.length) (h64 : r.length ≤ 64) (hr : ∀ z ∈ r, -1000000000 ≤ z ∧ z ≤ 1000000000) (hB : SmK B) (hL : Laid w) :
    Calls Tryz.prog 60 #[.int .i64 r.length, .func (.func 61) #[] #[.pointer (some ⟨pa, 0, none⟩), .pointer (some ⟨pb, 0, none⟩), .pointer (some ⟨pc, 0, none⟩)]] w (DotPost w (dotC r B c r.length)) := by
  have hcl := Lib.hid (fun W (hW : Ext w W) k (hk : k < r.length) => mulC_any (k := k) (h.ext hW) hR hc hk (by omega))
  have HL := Lib.hid hL
  have Hr := Lib.hid (fun k => getD_bd9 hr k)
  have HB := Lib.hid (fun k => eM_bd9 hB k c)
  have Hnd := Lib.hid (fun k (hk : k ≤ 64) => dotC_b (c := c) hr hB hk)
  obtain ⟨m, hm⟩ : ∃ m, m = r.length := ⟨_, rfl⟩
  rw [← hm] at hcl h64 ⊢
  clear h hR hc hl hr hB hL hm
  go_enter Tryz.func60, Tryz.ntmps60
  go_wp2_with fail
  go_loopw [6, 13] (fun sv jdx wr => ∃ j : Nat, j ≤ m ∧ jdx = .int .i64 j ∧ sv = I (dotC r B c j) ∧ Ext w wr) (fun _ jdx _ => m - (intOf jdx).toNat)
  case atStart => exact ⟨0, by omega, by go_num, (show I 0 = _ by unfold I S; rw [itoa_zero]).symm, Ext.refl _⟩
  case round =>
    obtain ⟨j, hj, rfl, rfl, hE⟩ := hrel
    generalize wr = Y at *
    by_cases hjl : j < m
    · have hji : (j : Int) < (m : Int) := by omega
      have hc1 := Lib.hid (hcl.out Y hE j hjl)
      obtain ⟨a, ha⟩ : ∃ a, a = r.getD j 0 := ⟨_, rfl⟩
      obtain ⟨b, hb⟩ : ∃ b, b = eM B j c := ⟨_, rfl⟩
      have Hts := Lib.hid (show dotC r B c (j + 1) = dotC r B c j + r.getD j 0 * eM B j c from rfl)
      rw [← ha, ← hb] at Hts hc1
      have hab := Hr.out j
      have hbb := HB.out j
      rw [← ha] at hab
      rw [← hb] at hbb
      have n1 := Hnd.out j (by omega)
      have n2 := nd_b66 (z := a * b) (by have := prod_b hab hbb; omega)
      have n3 := nd_b66 (z := a) (by omega)
      have n4 := nd_b66 (z := b) (by omega)
      obtain ⟨s, hs⟩ : ∃ s, s = dotC r B c j := ⟨_, rfl⟩
      rw [← hs] at n1 Hts ⊢
      have c1 := Lib.hid (fun W (hW : Ext w W) => wholeOf_any (n := a) (w := W) (by omega) (by omega) (HL.out.ext hW))
      have c2 := Lib.hid (fun W (hW : Ext w W) => wholeOf_any (n := b) (w := W) (by omega) (by omega) (HL.out.ext hW))
      have c3 := Lib.hid (fun W (hW : Ext w W) => Mul_any (a := a) (b := b) (w := W) (by unfold LIM; omega) (HL.out.ext hW))
      have c4 := Lib.hid (fun W (hW : Ext w W) => Add_any (a := s) (b := a * b) (w := W) (by unfold LIM; omega) (by unfold LIM; omega) (HL.out.ext hW))
      clear hab hbb n1 n2 n3 n4 hs ha hb
      go_wp2_with fail
      refine hc1.out.mono ?_
      rintro e W1 ⟨rfl, hE1⟩
      have e1 := hE.trans hE1
      clear hc1
      go_wp2_with fail
      refine (c1.out _ e1).mono ?_
      rintro e W2 ⟨rfl, hE2⟩
      have e2 := e1.trans hE2
      clear c1
      go_wp2_with fail
      refine (c2.out _ e2).mono ?_
      rintro e W3 ⟨rfl, hE3⟩
      have e3 := e2.trans hE3
      clear c2
      go_wp2_with fail
      refine (c3.out _ e3).mono ?_
      rintro e W4 ⟨rfl, hE4⟩
      have e4 := e3.trans hE4
      clear c3
      go_wp2_with fail
      refine (c4.out _ e4).mono ?_
      rintro e W5 ⟨rfl, hE5⟩
      have e5 := e4.trans hE5
      clear c4
      go_wp2_with fail
      go_roundw
      case rel => exact ⟨j + 1, by omega, by go_num, by rw [Hts.out], e5⟩
      case measure => simp [intOf] <;> omega
    · obtain rfl : j = m := by omega
      obtain ⟨z, hz⟩ : ∃ z, z = dotC r B c j := ⟨_, rfl⟩
      have hzn := Hnd.out j h64
      have Hres := Lib.hid (fun W e (h : DotPost w z e W) => (by rw [← hz]; exact h : DotPost w (dotC r B c j) e W))
      rw [← hz] at hzn ⊢
      have hsm := Lib.hid (wholeSmall_any (z := z) (w := Y) (by unfold LIM; omega) (HL.out.ext hE))
      have hgr := Lib.hid (fun W => great_any z W)
      have Hd := Lib.hid hE
      clear hz hzn hcl
      by_cases hin : inI64 z = true
      · rw [hin, if_pos rfl] at hsm
        cases hg : grt z
        · rw [hg] at hgr
          have Hg := Lib.hid hg
          clear hin hg
          go_wp2_with fail
          refine hsm.out.mono ?_
          rintro e W1 ⟨rfl, hE1⟩
          go_wp2_with fail
          refine (hgr.out _).mono ?_
          rintro e W2 ⟨rfl, hE2⟩
          have e3 := (Hd.out.trans hE1).trans hE2
          go_wp2_with fail
          go_ret2
          exact Hres.out _ _ ⟨e3, .inl ⟨Hg.out, rfl⟩⟩
        · rw [hg] at hgr
          have Hg := Lib.hid hg
          clear hin hg
          go_wp2_with fail
          refine hsm.out.mono ?_
          rintro e W1 ⟨rfl, hE1⟩
          go_wp2_with fail
          refine (hgr.out _).mono ?_
          rintro e W2 ⟨rfl, hE2⟩
          have e3 := (Hd.out.trans hE1).trans hE2
          go_wp2_with fail
          go_ret2
          exact Hres.out _ _ ⟨e3, .inr ⟨Hg.out, _, rfl⟩⟩
      · have Hg := Lib.hid (show grt z = true by
          unfold grt
          refine decide_eq_true ?_
          have : ¬ (-9223372036854775808 ≤ z ∧ z ≤ 9223372036854775807) := fun h => hin (decide_eq_true h)
          omega)
        have hin' : inI64 z = false := by simpa using hin
        rw [hin', if_neg (by decide)] at hsm
        clear hin hin'
        go_wp2_with fail
        refine hsm.out.mono ?_
        rintro e W1 ⟨rfl, hE1⟩
        have e3 := Hd.out.trans hE1
        go_wp2_with fail
        go_ret2
        exact Hres.out _ _ ⟨e3, .inr ⟨Hg.out, _, rfl⟩⟩
end Go.Proofs.YtkjnjmihfonilaaGreatDoor
namespace Go.Proofs.YtkjnjmihfonilaaGreatDoor
open Go.RowKit Go.Sort
open Hnf (V Span)
def unitL (r i : Nat) : List Int := (List.replicate r 0).set i 1
@[simp] theorem unitL_length (r i : Nat) : (unitL r i).length = r := by simp [unitL]
end Go.Proofs.YtkjnjmihfonilaaGreatDoor
namespace Go.Proofs.YtkjnjmihfonilaaGreatDoor
open Go.RowKit Go.Sort
theorem mx_a (w : World) (s s' : Option Addr) (n a m b : Nat) : (Instr.index 107 (.agg #[.slice s n a, .slice s' m b]) (.int .i64 0)).run Tryz.prog w = .ok (.slice s n a) w := by
  simp [Instr.index, run_underlying Tryz.underlying107, asIntOf, go_sem]
theorem mx_b (w : World) (s s' : Option Addr) (n a m b : Nat) : (Instr.index 107 (.agg #[.slice s n a, .slice s' m b]) (.int .i64 1)).run Tryz.prog w = .ok (.slice s' m b) w := by
  simp [Instr.index, run_underlying Tryz.underlying107, asIntOf, go_sem]
theorem boxd_ext {W W' : World} {B : Nat} {t : TypeId} {v : Value} (h : Boxed W B t v) (he : Ext W W') : Boxed W' B t v := (he.block B h.lt).trans h
def allSm (M : Mx) : Bool := M.all smallB
theorem allSm_no {M : Mx} {i : Nat} (h : i < M.length) (h2 : smallB M[i] = false) : allSm M = false := by
  unfold allSm
  rw [List.all_eq_false]
  exact ⟨_, List.getElem_mem h, by rw [h2]; decide⟩
theorem allSm_yes {M : Mx} (h : ∀ i (hi : i < M.length), smallB M[i] = true) : allSm M = true := by
  unfold allSm
  rw [List.all_eq_true]
  intro x hx
  obtain ⟨i, hi, rfl⟩ := List.getElem_of_mem hx
  exact h i hi
def MulPost (w : World) (G : Mx) (e : Ending) (w' : World) : Prop :=
  Ext w w' ∧ ((allSm G = true ∧ ∃ v, e = .returned (.tuple #[v, .int .i64 0]) ∧ MatO w.heap.size w' v G) ∨ (allSm G = false ∧ e = .returned (.tuple #[.slice none 0 0, .int .i64 4])))
def mulR (n : Nat) (B : Mx) (r : List Int) : List Int := (List.range n).map fun c => dotC r B c r.length
@[simp] theorem mulR_length (n : Nat) (B : Mx) (r : List Int) : (mulR n B r).length = n := by simp [mulR]
theorem mulR_at {n : Nat} (B : Mx) (r : List Int) {c : Nat} (h : c < n) : (mulR n B r)[c]'(by simpa using h) = dotC r B c r.length := by simp [mulR]
theorem mulM_at {n : Nat} {A B : Mx} {i : Nat} (h : i < A.length) : (mulM n A B)[i]'(by simpa using h) = mulR n B A[i] := by simp [mulM, mulR, dotC]
set_option maxRecDepth 100000 in
set_option maxHeartbeats 4000000 in
theorem mul_any {w : World} {va vb : Value} {A B : Mx} (hA : MatR w va A) (hB : MatR w vb B) (hcA : checkM A = 0) (hcB : checkM B = 0) (hAB : ncols A = B.length) (hL : Laid w) :
    Calls Tryz.prog 30 #[va, vb] w (MulPost w (mulM (ncols B) A B)) := by
  obtain ⟨hla, hna, hRA, hsA⟩ := checkM_ok hcA
  obtain ⟨hlb, hnb, hRB, hsB⟩ := checkM_ok hcB
  have c1 := fun W (hW : Ext w W) => tableCheck_any (hA.ext hW)
  rw [hcA] at c1
  have C1 := Lib.hid c1
  have c2 := fun W (hW : Ext w W) => tableCheck_any (hB.ext hW)
  rw [hcB] at c2
  have C2 := Lib.hid c2
  have c3 := fun W (hW : Ext w W) => columns_any (hA.ext hW)
  rw [hAB] at c3
  have C3 := Lib.hid c3
  have C4 := Lib.hid (fun W (hW : Ext w W) => columns_any (hB.ext hW))
  have HB := Lib.hid hB
  obtain ⟨sa, ga, oa, ka, vsa, rfl, hka, hva, hSa, hra⟩ := hA
  obtain ⟨sb, gb, ob, kb, vsb, rfl, hkb, hvb, hSb, hrb⟩ := id hB
  have HSa := Lib.hid hSa
  have HVa := Lib.hid hva
  have HRa := Lib.hid hra
  have HRt := Lib.hid (fun r (hr : r ∈ A) => show r.length = B.length by rw [hRA r hr, hAB])
  have Hsa := Lib.hid hsA
  have Hdot := Lib.hid (fun W pa pb pc (r : List Int) c (hW : Ext w W) (h : MulCap W pa pb pc r B c) (hc : c < ncols B) (hl : r.length = B.length) (hr : ∀ z ∈ r, -1000000000 ≤ z ∧ z ≤ 1000000000) => dot_any h hRB hc hl (by omega) hr hsB (hL.ext hW))
  obtain ⟨n, hn⟩ : ∃ n, n = ncols B := ⟨_, rfl⟩
  rw [← hn] at C4 Hdot hnb ⊢
  have hxb : (w.alloc (.cells #[.slice sb B.length kb] 32)).cell? ⟨w.heap.size, 0, none⟩ = some (.slice sb B.length kb) := by go_simp
  have hX := (Ext.refl w).alloc (.cells #[.slice sb B.length kb] 32)
  have ixa := fun W => mx_a W sa sb A.length ka B.length kb
  have ixb := fun W => mx_b W sa sb A.length ka B.length kb
  obtain ⟨i0, hi0, hz0, hz1, hz2⟩ := info_parts Tryz.infoInt
  clear hSa hva hra hSb hvb hrb hka hkb hB hL hRA hRB hsA hsB hcA hcB hAB hn c1 c2 c3 hi0 hz0 hz1 hz2 i0
  go_enter Tryz.func30, Tryz.ntmps30
  go_wp2_with fail
  generalize w.alloc (.cells #[.slice sb B.length kb] 32) = V0 at *
  go_loopw [19] (fun idx wr => ∃ i : Nat, i ≤ 2 ∧ idx = .int .i64 i ∧ Ext V0 wr) (fun idx _ => 2 - (intOf idx).toNat)
  case atStart => exact ⟨0, by omega, by go_num, Ext.refl _⟩
  case round =>
    obtain ⟨i, hi, rfl, hE⟩ := hrel
    generalize wr = V at *
    rcases (show i = 0 ∨ i = 1 ∨ i = 2 by omega) with rfl | rfl | rfl
    · go_wp2_with fail
      refine (C1.out _ (hX.trans hE)).mono ?_
      rintro e W ⟨rfl, hE2⟩
      go_wp2_with fail
      go_roundw
      case rel => exact ⟨1, by omega, by go_num, hE.trans hE2⟩
      case measure => simp [intOf]
    · go_wp2_with fail
      refine (C2.out _ (hX.trans hE)).mono ?_
      rintro e W ⟨rfl, hE2⟩
      go_wp2_with fail
      go_roundw
      case rel => exact ⟨2, by omega, by go_num, hE.trans hE2⟩
      case measure => simp [intOf]
    · clear C1 C2 ixa ixb
      have hxb1 := hE.cell hxb
      have e1 := hX.trans hE
      have k1 := cell_regrown hxb1
      have q3 := Lib.hid (quietC (w := V) (fun W hW => C3.out W (e1.trans hW)))
      clear hi hxb
      go_wp2_with fail
      refine wp_region_quiet_below (by kernel_rfl) (by kernel_rfl) ?_
      repeat (quiet_step (exact q3.out _ _))
      refine wpQuiet_nil ?_
      intro _ hw'
      obtain ⟨⟨dq, osq⟩, hw''⟩ := hw'
      subst hw''
      have hE5 := ext_regrown V dq osq
      have hxb2 := hE5.cell hxb1
      have e2 := e1.trans hE5
      clear q3 k1 C3 hxb1 hE5 hE e1
      generalize hW5 : grow (redrawn V dq) osq = W5 at *
      clear hW5
      go_wp2_with fail
      go_loopw [9, 35] (fun out idx wr => ∃ i : Nat, i ≤ A.length ∧ idx = .int .i64 i ∧ Hid (MatO W5.heap.size wr out ((mulM n A B).take i)) ∧ Hid (∀ j (h : j < A.length), j < i → smallB (mulR n B A[j]) = true) ∧ Ext W5 wr) (fun _ idx _ => A.length - (intOf idx).toNat)
      case atStart => exact ⟨0, by omega, by go_num, Lib.hid (by rw [List.take_zero]; exact MatO.nil _ _), Lib.hid (fun j _ h => by omega), Ext.refl _⟩
      case round =>
        obtain ⟨i, hi, rfl, hO, hK, hE⟩ := hrel
        generalize wr = Y at *
        have eY := e2.trans hE
        have xY := hE.cell hxb2
        by_cases hlt : i < A.length
        · have hii : (i : Int) < (A.length : Int) := by omega
          obtain rfl := HSa.out.addr (by rw [HVa.out]; omega)
          obtain ⟨sr, br, or, cr, hrow, hrc, hSr⟩ := MatR.row HSa.out HVa.out HRa.out hlt
          obtain ⟨r, hr⟩ : ∃ r, r = A[i] := ⟨_, rfl⟩
          have hrl := HRt.out _ (List.getElem_mem hlt)
          have hrs := Hsa.out _ (List.getElem_mem hlt)
          have hsn : (mulM n A B).take (i + 1) = (mulM n A B).take i ++ [mulR n B A[i]] := by
            rw [List.take_succ_eq_append_getElem (by simpa using hlt), mulM_at hlt]
          have hKi := fun (h : smallB (mulR n B A[i]) = true) j (hj : j < A.length) (hji : j < i + 1) => show smallB (mulR n B A[j]) = true by
            by_cases ej : j = i
            · subst ej; exact h
            · exact hK.out j hj (by omega)
          have hno := fun (h : smallB (mulR n B A[i]) = false) => allSm_no (M := mulM n A B) (i := i) (by simpa using hlt) (by rw [mulM_at hlt]; exact h)
          rw [← hr] at hrow hrc hSr hrl hrs hsn hKi hno
          have Hsn := Lib.hid hsn
          have HKi := Lib.hid hKi
          have Hno := Lib.hid hno
          have Hrs := Lib.hid hrs
          have Hrl := Lib.hid hrl
          have HRr := Lib.hid (show RowR w (.slice sr r.length cr) r from ⟨_, _, _, _, rfl, hrc, hSr⟩)
          have hrY := eY.cell hrow
          have Hil := Lib.hid (show ((mulM n A B).take i).length = i by rw [List.length_take, mulM_length]; omega)
          obtain ⟨m, hm⟩ : ∃ m, m = r.length := ⟨_, rfl⟩
          rw [← hm] at hrY
          have Hm := Lib.hid hm
          have fY := ((Ext.refl Y).alloc (.cells #[.slice sr m cr] 26)).alloc (.cells #[] 3)
          have x3 := fY.cell xY
          have xr : ((Y.alloc (.cells #[.slice sr m cr] 26)).alloc (.cells #[] 3)).cell? ⟨Y.heap.size, 0, none⟩ = some (.slice sr m cr) := by go_simp
          have h0 := own_none (Y.alloc (.cells #[.slice sr m cr] 26)) 3
          rw [World.size_alloc] at h0
          have H0 := Lib.hid (show RowV Y.heap.size ((Y.alloc (.cells #[.slice sr m cr] 26)).alloc (.cells #[] 3)) (slv (Y.heap.size + 1) 0 0) [] from ownsRow_mono (show ((Y.alloc (.cells #[.slice sr m cr] 26)).alloc (.cells #[] 3)).ownsRow (Y.heap.size + 1) 3 1 (slv (Y.heap.size + 1) 0 0) 0 [] from h0) (by omega))
          obtain ⟨X0, hX0⟩ : ∃ X0, X0 = (Y.alloc (.cells #[.slice sr m cr] 26)).alloc (.cells #[] 3) := ⟨_, rfl⟩
          have hb : Y.heap.size < X0.heap.size := by rw [hX0]; simp; omega
          have c4 := Lib.hid (C4.out _ (eY.trans fY))
          rw [← hX0] at fY x3 xr H0 c4
          have HX0 := Lib.hid hX0
          clear hrow hr hrs hrl hsn hKi hno hrc hSr hm h0 hX0 C4
          have hbox := (Boxed.new Y 26 (.slice sr m cr)).alloc (.cells #[] 3)
          rw [← HX0.out] at hbox
          have x3' := x3
          have xr' := xr
          rw [HX0.out] at x3 xr
          go_wp2_with fail
          rw [← HX0.out]
          refine c4.out.mono ?_
          rintro e X ⟨rfl, hE6⟩
          clear x3 xr
          have x3 := hE6.cell x3'
          have xr := hE6.cell xr'
          have hYX := fY.trans hE6
          have hXs := hE6.size
          obtain ⟨bY, hbY⟩ : ∃ bY, bY = Y.heap.size := ⟨_, rfl⟩
          have HV0 := Lib.hid (H0.out.ext hE6)
          rw [← hbY] at xr HV0 hb ⊢
          have HbY := Lib.hid hbY
          have HB0 := Lib.hid (show Boxed X bY 26 (.slice sr m cr) by rw [hbY]; exact boxd_ext hbox hE6)
          clear hbox hbY HX0 H0 x3' xr' c4 hE6 fY
          go_wp2_with fail
          go_loopw [12, 42] (fun rv idx wr => ∃ c : Nat, c ≤ n ∧ idx = .int .i64 c ∧ Hid (RowV bY wr rv ((mulR n B r).take c)) ∧ Hid (∀ j (h : j < (mulR n B r).length), j < c → grt (mulR n B r)[j] = false) ∧ Hid (Boxed wr bY 26 (.slice sr m cr)) ∧ Ext Y wr) (fun _ idx _ => n - (intOf idx).toNat)
          case atStart => exact ⟨0, by omega, by go_num, Lib.hid (by rw [List.take_zero]; exact HV0.out), Lib.hid (fun j _ h => by omega), HB0, hYX⟩
          case round =>
            obtain ⟨c, hcn, rfl, hV, hG, hBx, hE7⟩ := hrel
            generalize wr = Z at *
            have z3 := hE7.cell xY
            have zr := hBx.out.cell
            have eZ := eY.trans hE7
            have hZs := hE7.size
            by_cases hcl : c < n
            · have hci : (c : Int) < (n : Int) := by omega
              have fa := (Ext.refl Z).alloc (.cells #[.int .i64 c] 3)
              have hcap : MulCap (Z.alloc (.cells #[.int .i64 c] 3)) bY w.heap.size Z.heap.size r B c :=
                ⟨⟨sr, cr, by rw [← Hm.out]; exact fa.cell zr, (HRr.out.ext eZ).ext fa⟩, ⟨sb, kb, fa.cell z3, (HB.out.ext eZ).ext fa⟩, by go_simp⟩
              have hdt := Hdot.out _ bY w.heap.size Z.heap.size r c (eZ.trans fa) hcap hcl Hrl.out Hrs.out
              have hzc := mulR_at B r hcl
              have hcm : c < (mulR n B r).length := by simpa using hcl
              rw [← Hm.out] at hdt hzc
              generalize dotC r B c m = z at *
              have Hzc := Lib.hid hzc
              have Hdt := Lib.hid hdt
              have Htk := Lib.hid (show (mulR n B r).take (c + 1) = (mulR n B r).take c ++ [z] by
                rw [List.take_succ_eq_append_getElem hcm, hzc])
              have Hcl := Lib.hid (show ((mulR n B r).take c).length = c by rw [List.length_take, mulR_length]; omega)
              have hzs := hE7.size
              have hVb := Lib.hid (hV.out.ext fa)
              have hBb := Lib.hid (boxd_ext hBx.out fa)
              have zr8 := fa.cell zr
              have z38 := fa.cell z3
              clear hcap hdt hzc z3
              go_wp2_with fail
              refine Hdt.out.mono ?_
              rintro e Z2 ⟨hF, (⟨hg, rfl⟩ | ⟨hg, y, rfl⟩)⟩
              · have HVc := Lib.hid (hVb.out.ext hF)
                have HBc := Lib.hid (boxd_ext hBb.out hF)
                have hE8 := hE7.trans (fa.trans hF)
                have hs8 : bY ≤ Z2.heap.size := by rw [HbY.out]; exact hE8.size
                have Hg := Lib.hid hg
                clear hg hV hBx hVb hBb hF Hdt zr fa
                go_wp2_with (at_builtin; refine app_int rfl _ _ 26 Tryz.underlying26 rfl rfl (HVc.out.ext ((Ext.refl _).alloc _)) rfl (b := Z2.heap.size) (z := z) (by go_simp) (by rw [Hcl.out]; omega) (by simp; omega) ?_; intro gg cap2 w8 hO8 hB8 hG8; rw [Hcl.out] at hO8 ⊢; rw [← Htk.out] at hO8)
                have hE9 : Ext Y w8 := by
                  have := hE8.alloc (.cells #[.int .i64 z] 3)
                  rw [HbY.out] at hB8
                  exact Below.trans this hB8
                have HO8 := Lib.hid hO8
                have HB8 := Lib.hid (Boxed.kept (Boxed.alloc HBc.out (.cells #[.int .i64 z] 3)) hG8 (Boxed.not_row HBc.out (by decide) HVc.out))
                clear hG8 hB8 hO8
                go_wp2_with fail
                go_roundw
                case rel => exact ⟨c + 1, by omega, by go_num, HO8, Lib.hid (fun j h hj => by
                  by_cases ej : j = c
                  · subst ej; rw [Hzc.out]; exact Hg.out
                  · exact hG.out j h (by omega)), HB8, hE9⟩
                case measure => simp [intOf] <;> omega
              · have Hn := Lib.hid (Hno.out (small_not hcm (by rw [Hzc.out]; exact hg)))
                have eF := eZ.trans (fa.trans hF)
                clear hg
                go_wp2_with fail
                go_ret2
                exact ⟨eF, .inr ⟨Hn.out, rfl⟩⟩
            · obtain rfl : c = n := by omega
              have hsm : smallB (mulR c B r) = true := small_yes (fun j hj => hG.out j hj (by simpa using hj))
              have HK2 := Lib.hid (HKi.out hsm)
              have hVf : RowV bY Z u12 (mulR c B r) := by have := hV.out; rw [List.take_of_length_le (by simp)] at this; exact this
              obtain ⟨ua, _, _, uk, hue, _⟩ := id hVf.row
              subst hue
              rw [mulR_length] at *
              have hs5 := hE.size
              have HVF := Lib.hid ((hVf.mono (show W5.heap.size ≤ bY by rw [HbY.out]; exact hs5)).ext ((Ext.refl Z).alloc (.cells #[.slice ua c uk] 26)))
              have HOY := Lib.hid ((hO.out.ext hE7).ext ((Ext.refl Z).alloc (.cells #[.slice ua c uk] 26)))
              have hEZ := hE.trans hE7
              have hs6 := hEZ.size
              clear hVf hV hO hG hsm hBx
              go_wp2_with (at_builtin; refine app_mat rfl _ _ rfl rfl HOY.out rfl (b := Z.heap.size) (r := mulR c B r) (by go_simp) HVF.out (by rw [Hil.out]; omega) (by simp; omega) ?_; intro gg cap2 w8 hO8 hB8 hG8; rw [Hil.out] at hO8 ⊢; rw [← Hsn.out] at hO8)
              have hE8 : Ext W5 w8 := Below.trans (hEZ.alloc (.cells #[.slice ua c uk] 26)) hB8
              have HO8 := Lib.hid hO8
              clear hG8 hB8 hO8
              go_wp2_with fail
              go_roundw
              case rel => exact ⟨i + 1, by omega, by go_num, HO8, HK2, hE8⟩
              case measure => simp [intOf] <;> omega
        · obtain rfl : i = A.length := by omega
          have hs5 := e2.size
          have HF := Lib.hid (show MatO w.heap.size Y u9 (mulM n A B) by have := hO.out; rw [List.take_of_length_le (by simp)] at this; exact this.mono hs5)
          have Hal := Lib.hid (show allSm (mulM n A B) = true from allSm_yes fun j hj => by
            have hj' : j < A.length := by simpa using hj
            rw [mulM_at hj']; exact hK.out j hj' hj')
          go_wp2_with fail
          go_ret2
          exact ⟨eY, .inl ⟨Hal.out, _, rfl, HF.out⟩⟩
end Go.Proofs.YtkjnjmihfonilaaGreatDoor
namespace Go.Proofs.YtkjnjmihfonilaaGreatDoor
open Go.RowKit Go.Sort
set_option maxRecDepth 100000 in
set_option maxHeartbeats 2000000 in
theorem take_row {w0 w : World} {ga ca gb ob gk cb : Nat} {sb : Option Addr} {k : Int} {a b : List Int} (hO : OwnV 80 w0.heap.size w ga ca (ss a)) (hB : Sl w sb gb ob (ss b)) (hne : gb ≠ ga)
    (hk : w.cell? ⟨gk, 0, none⟩ = some (I k)) (hkne : gk ≠ ga) (hlen : b.length ≤ a.length) (hl : a.length ≤ 1000000)
    (hbig : ∀ (i : Nat) (h : i < b.length) (h' : i < a.length), nd a[i] < LIM ∧ nd (k * b[i]) < LIM ∧ nd k + nd b[i] ≤ LIM) (hL : Laid w0) (hE0 : Ext w0 w) :
    Calls Tryz.prog 144 #[slv ga a.length ca, .slice sb b.length cb, .pointer (some ⟨gk, 0, none⟩)] w fun e w' => e = .returned (.tuple #[]) ∧ OwnV 80 w0.heap.size w' ga ca (ss (subK k a b)) ∧ w.grownBy w' (some ga) := by
  have HL := Lib.hid hL
  have HB := Lib.hid hB
  have Hbig := Lib.hid hbig
  clear hL hB hbig
  go_enter Tryz.func144, Tryz.ntmps144
  go_wp2
  go_loopw [9] (fun idx wr => ∃ i : Nat, i ≤ b.length ∧ idx = .int .i64 i ∧ OwnV 80 w0.heap.size wr ga ca (ss (subK k a (b.take i))) ∧ w.grownBy wr (some ga)) (fun idx _ => b.length - (intOf idx).toNat)
  case atStart => exact ⟨0, by omega, by go_num, by simpa [subK_nil] using hO, World.grownBy.refl _ _⟩
  case round =>
    obtain ⟨i, hi, rfl, hOr, hG⟩ := hrel
    have hga := hO.lt.1
    by_cases hlt : i < b.length
    · have hia : i < a.length := by omega
      obtain ⟨x, hx⟩ : ∃ x, x = a[i] := ⟨_, rfl⟩
      obtain ⟨y, hy⟩ : ∃ y, y = b[i] := ⟨_, rfl⟩
      obtain rfl := HB.out.addr (by simpa using (by omega : 0 < b.length))
      have cb : wr.cell? ⟨gb, ob + i, none⟩ = some (I y) := by
        refine grown_frozen_cell hG hne ?_
        rw [hy]
        exact HB.out.cell i _ (by simp [ss, hlt])
      have ca' : wr.cell? ⟨ga, i, none⟩ = some (I x) := by
        rw [hOr.cell (by simpa using hia)]
        simp only [ss, List.getElem_map]
        rw [subK_get k a _ i hia (by rw [List.length_take]; omega), hx]
      have ck : wr.cell? ⟨gk, 0, none⟩ = some (I k) := grown_frozen_cell hG hkne hk
      have fa := hOr.frozen i
      have hEr : Ext w0 wr := ext_trans_grown hE0 hG hga
      have hstep := subK_step k a b i hlt hia
      rw [← hx, ← hy] at hstep
      have Hstep := Lib.hid hstep
      obtain ⟨n1, n2, n3⟩ := Hbig.out i hlt hia
      rw [← hx] at n1
      rw [← hy] at n2 n3
      have hmul := Lib.hid (fun W hW => Mul_any (a := k) (b := y) (w := W) n3 hW)
      have hsub := Lib.hid (fun W hW => Sub_any (a := x) (b := k * y) (w := W) n1 n2 hW)
      have hyz : (Lib.itoa y == [48]) = decide (y = 0) := itoa_eq_zero y
      have hii : (i : Int) < (b.length : Int) := by omega
      clear hx hy hstep n1 n2 n3 hk hO
      by_cases hy0 : y = 0
      · rw [decide_eq_true hy0] at hyz
        have Hy0 := Lib.hid hy0
        clear hy0 hmul hsub
        go_wp2
        go_roundw
        case rel =>
          refine ⟨i + 1, by omega, by go_num, ?_, hG⟩
          rw [Hstep.out]
          have e : (subK k a (List.take i b)).set i (x - k * y) = subK k a (List.take i b) := by
            have hset : ∀ (l : List Int) (h : i < l.length), l[i] = x → l.set i x = l := fun l h e => by rw [← e]; exact List.set_getElem_self h
            rw [Hy0.out, Int.mul_zero, Int.sub_zero]
            refine hset _ (by simpa using hia) ?_
            have := hOr.cell (j := i) (by simpa using hia)
            rw [ca'] at this
            simp only [ss, List.getElem_map] at this
            have h2 := Option.some.inj this
            exact (I_inj h2).symm
          rw [e]; exact hOr
        case measure => simp [intOf] <;> omega
      · rw [decide_eq_false hy0] at hyz
        have c1 := quietC (w := wr) (fun W h => hmul.out W ((HL.out.ext hEr).ext h))
        have c2 := quietC (w := wr) (fun W h => hsub.out W ((HL.out.ext hEr).ext h))
        have k1 := cell_regrown ca'
        have k2 := cell_regrown ck
        clear hy0
        go_wp2_with fail
        refine wp_region_quiet_tail 11 (by kernel_rfl) (by kernel_rfl) ?_
        simp only [List.take_succ_cons, List.take_zero, List.drop_succ_cons, List.drop_zero]
        repeat (quiet_step (first | exact c1 _ _ | exact c2 _ _))
        refine wpQuiet_nil ?_
        intro _ hw'
        obtain ⟨⟨dq, osq⟩, hw''⟩ := hw'
        subst hw''
        have hE5 := ext_regrown wr dq osq
        have hO5 := hOr.ext hE5
        clear c1 c2 k1 k2
        generalize grow (redrawn wr dq) osq = w5 at *
        have f5 := hO5.frozen i
        have d5 := hE5.cell ca'
        obtain ⟨hO6, hG6⟩ := hO5.set i (I (x - k * y))
        rw [← ss_set, ← Hstep.out] at hO6
        have hG5 := grown_trans hG (grown_trans (grown_ext hE5 (some ga)) hG6)
        clear hE5 hO5 hG6
        go_wp2
        go_roundw
        case rel => exact ⟨i + 1, by omega, by go_num, hO6, hG5⟩
        case measure => simp [intOf] <;> omega
    · go_wp2
      go_end0
      refine ⟨rfl, ?_, hG⟩
      rw [List.take_of_length_le (by omega)] at hOr
      exact hOr
end Go.Proofs.YtkjnjmihfonilaaGreatDoor
namespace Go.Proofs.YtkjnjmihfonilaaGreatDoor
open Go.RowKit Go.Sort
set_option maxRecDepth 100000 in
set_option maxHeartbeats 2000000 in
theorem less_any {w0 w : World} {gx cx gy cy gb ob cb gd od cd : Nat} {sb sd : Option Addr} {k : Int} {a a2 b d : List Int}
    (hX : OwnV 80 w0.heap.size w gx cx (ss a)) (hY : OwnV 80 w0.heap.size w gy cy (ss a2)) (hxy : gx ≠ gy)
    (hB : Sl w sb gb ob (ss b)) (hbx : gb ≠ gx) (hD : Sl w sd gd od (ss d)) (hdx : gd ≠ gx) (hdy : gd ≠ gy)
    (hlen : b.length ≤ a.length) (hlen2 : d.length ≤ a2.length) (hl : a.length ≤ 1000000) (hl2 : a2.length ≤ 1000000)
    (hbig : ∀ (i : Nat) (h : i < b.length) (h' : i < a.length), nd a[i] < LIM ∧ nd (k * b[i]) < LIM ∧ nd k + nd b[i] ≤ LIM)
    (hbig2 : ∀ (i : Nat) (h : i < d.length) (h' : i < a2.length), nd a2[i] < LIM ∧ nd (k * d[i]) < LIM ∧ nd k + nd d[i] ≤ LIM) (hL : Laid w0) (hE0 : Ext w0 w) :
    Calls Tryz.prog 104 #[.agg #[slv gx a.length cx, slv gy a2.length cy], I k, .agg #[.slice sb b.length cb, .slice sd d.length cd]] w fun e w' =>
      e = .returned (.tuple #[]) ∧ OwnV 80 w0.heap.size w' gx cx (ss (subK k a b)) ∧ OwnV 80 w0.heap.size w' gy cy (ss (subK k a2 d)) ∧ Chg (fun g => g = gx ∨ g = gy) w w' := by
  have hkz : (Lib.itoa k == [48]) = decide (k = 0) := itoa_eq_zero k
  by_cases hk0 : k = 0
  · rw [decide_eq_true hk0] at hkz
    subst hk0
    rw [subK_zero a b hlen, subK_zero a2 d hlen2]
    have hE := Ext.refl w
    clear hbig hbig2 hL hlen hlen2 hl hl2 hB hD
    go_enter Tryz.func104, Tryz.ntmps104
    go_wp2
    refine bodyPost_ret (results_none rfl _ _ _) rfl ?_
    have hEW : Ext w (((w.alloc (.cells #[slv gx a.length cx, slv gy a2.length cy] 106)).alloc (.cells #[I 0] 80)).alloc (.cells #[.slice sb b.length cb, .slice sd d.length cd] 106)) := (((Ext.refl w).alloc _).alloc _).alloc _
    exact ⟨rfl, hX.ext hEW, hY.ext hEW, Chg.of_ext hEW⟩
  · rw [decide_eq_false hk0] at hkz
    have HX := Lib.hid hX
    have HY := Lib.hid hY
    have HB := Lib.hid hB
    have HD := Lib.hid hD
    have h1 := hX.lt.2
    have h2 := hY.lt.2
    clear hX hY hB hD hk0
    go_enter Tryz.func104, Tryz.ntmps104
    go_wp2_with fail
    obtain ⟨W, hW⟩ : ∃ W, W = ((w.alloc (.cells #[slv gx a.length cx, slv gy a2.length cy] 106)).alloc (.cells #[I k] 80)).alloc (.cells #[.slice sb b.length cb, .slice sd d.length cd] 106) := ⟨_, rfl⟩
    have hEW : Ext w W := by rw [hW]; exact (((Ext.refl w).alloc _).alloc _).alloc _
    have k0 : W.cell? ⟨w.heap.size + 1, 0, none⟩ = some (I k) := by rw [hW]; go_simp
    have k1 : W.cell? ⟨w.heap.size, 1, none⟩ = some (slv gy a2.length cy) := by rw [hW]; go_simp
    have k2 : W.cell? ⟨w.heap.size + 1 + 1, 1, none⟩ = some (.slice sd d.length cd) := by rw [hW]; go_simp
    rw [← hW]
    have hBig := Lib.hid hbig
    have hBig2 := Lib.hid hbig2
    have hL' := Lib.hid hL
    clear hW hbig hbig2 hL
    refine (take_row (HX.out.ext hEW) (HB.out.ext hEW) hbx k0 (by omega) hlen hl hBig.out hL'.out (hE0.trans hEW)).mono ?_
    rintro e w1 ⟨rfl, hX1, hG1⟩
    have hC1 : Chg (fun g => g = gx ∨ g = gy) W w1 := Chg.of_grown hG1 (.inl rfl)
    have k1' := grown_frozen_cell hG1 (by omega) k1
    have k2' := grown_frozen_cell hG1 (by omega) k2
    have k0' := grown_frozen_cell hG1 (by omega) k0
    have hY1 := (HY.out.ext hEW).other hG1 (by omega)
    have hD1 : Sl w1 sd gd od (ss d) := ⟨HD.out.addr, fun i x hx => grown_frozen_cell hG1 hdx ((HD.out.ext hEW).cell i x hx)⟩
    have hgx0 := HX.out.lt.1
    have hE1 : Ext w0 w1 := ext_trans_grown (hE0.trans hEW) hG1 hgx0
    have HX1 := Lib.hid hX1
    clear hG1 k0 k1 k2 hX1
    go_wp2_with fail
    refine (take_row hY1 hD1 hdy k0' (by omega) hlen2 hl2 hBig2.out hL'.out hE1).mono ?_
    rintro e w2 ⟨rfl, hY2, hG2⟩
    have hX2 := HX1.out.other hG2 hxy
    have hC2 := hC1.trans (Chg.of_grown hG2 (.inr rfl))
    clear hG2 hY1 hD1 k0' k1' k2'
    go_wp2_with fail
    go_end0
    exact ⟨rfl, hX2, hY2, (Chg.of_ext hEW).trans hC2⟩
end Go.Proofs.YtkjnjmihfonilaaGreatDoor
namespace Go.Proofs.YtkjnjmihfonilaaGreatDoor
open Go.RowKit Go.Sort
set_option maxRecDepth 100000 in
set_option maxHeartbeats 2000000 in
theorem turn_any {w0 w : World} {gx cx gy cy : Nat} {a a2 : List Int}
    (hX : OwnV 80 w0.heap.size w gx cx (ss a)) (hY : OwnV 80 w0.heap.size w gy cy (ss a2)) (hxy : gx ≠ gy) (hl : a.length ≤ 1000000) (hl2 : a2.length ≤ 1000000)
    (hbig : ∀ z ∈ a, nd z ≤ LIM) (hbig2 : ∀ z ∈ a2, nd z ≤ LIM) :
    Calls Tryz.prog 102 #[.agg #[slv gx a.length cx, slv gy a2.length cy]] w fun e w' =>
      e = .returned (.tuple #[]) ∧ OwnV 80 w0.heap.size w' gx cx (ss (a.map fun z => -z)) ∧ OwnV 80 w0.heap.size w' gy cy (ss (a2.map fun z => -z)) ∧ Chg (fun g => g = gx ∨ g = gy) w w' := by
  have HX := Lib.hid hX
  have HY := Lib.hid hY
  have h1 := hX.lt.2
  have h2 := hY.lt.2
  have Hb := Lib.hid hbig
  have Hb2 := Lib.hid hbig2
  clear hX hY hbig hbig2
  go_enter Tryz.func102, Tryz.ntmps102
  go_wp2_with fail
  obtain ⟨W, hW⟩ : ∃ W, W = (w.alloc (.cells #[slv gx a.length cx, slv gy a2.length cy] 106)).alloc (.cells #[slv gx a.length cx, slv gy a2.length cy] 88) := ⟨_, rfl⟩
  have hEW : Ext w W := by rw [hW]; exact ((Ext.refl w).alloc _).alloc _
  have k0 : W.cell? ⟨w.heap.size + 1, 0, none⟩ = some (slv gx a.length cx) := by rw [hW]; go_simp
  have k1 : W.cell? ⟨w.heap.size + 1, 1, none⟩ = some (slv gy a2.length cy) := by rw [hW]; go_simp
  rw [← hW]
  clear hW
  go_loopw [12] (fun idx wr => ∃ i : Nat, i ≤ 2 ∧ idx = .int .i64 i ∧ OwnV 80 w0.heap.size wr gx cx (ss (if 0 < i then a.map (fun z => -z) else a)) ∧ OwnV 80 w0.heap.size wr gy cy (ss (if 1 < i then a2.map (fun z => -z) else a2)) ∧ Chg (fun g => g = gx ∨ g = gy) W wr) (fun idx _ => 2 - (intOf idx).toNat)
  case atStart => exact ⟨0, by omega, by go_num, HX.out.ext hEW, HY.out.ext hEW, Chg.refl _ _⟩
  case round =>
    obtain ⟨i, hi, rfl, hOXr, hOYr, hC⟩ := hrel
    generalize wr = V at *
    have k0r := hC.cell (by omega) k0
    have k1r := hC.cell (by omega) k1
    rcases (show i = 0 ∨ i = 1 ∨ i = 2 by omega) with rfl | rfl | rfl
    · rw [if_neg (by omega)] at hOXr hOYr
      rw [show ((0 : Nat) : Int) = 0 from rfl]
      have hOX := hOXr
      go_wp2_with fail
      go_loopw [18] (fun jdx wi => ∃ j : Nat, j ≤ a.length ∧ jdx = .int .i64 j ∧ OwnV 80 w0.heap.size wi gx cx (ss (negTo j a)) ∧ V.grownBy wi (some gx)) (fun jdx _ => a.length - (intOf jdx).toNat)
      case atStart => exact ⟨0, by omega, by go_num, by rw [negTo_zero]; exact hOX, World.grownBy.refl _ _⟩
      case round =>
        obtain ⟨j, hj, rfl, hOj, hG⟩ := hrel
        by_cases hlt : j < a.length
        · obtain ⟨x, hx⟩ : ∃ x, x = a[j] := ⟨_, rfl⟩
          have cj : wr.cell? ⟨gx, j, none⟩ = some (I x) := by
            rw [hOj.cell (by simpa using hlt)]
            simp only [ss, List.getElem_map]
            rw [negTo_get hlt, hx]
          have hneg := Lib.hid (Neg_any (z := x) (Hb.out x (by rw [hx]; exact List.getElem_mem hlt)))
          have Hst := Lib.hid (negTo_step hlt)
          rw [← hx] at Hst
          have hjj : (j : Int) < (a.length : Int) := by omega
          clear hx hOX hOXr
          go_wp2_with fail
          refine (hneg.out _).mono ?_
          rintro e w5 ⟨rfl, hE5⟩
          have f5 := (hOj.ext hE5).frozen j
          have d5 := hE5.cell cj
          obtain ⟨hO6, hG6⟩ := (hOj.ext hE5).set j (I (-x))
          rw [← ss_set, ← Hst.out] at hO6
          have hG7 := grown_trans hG (grown_trans (grown_ext hE5 (some gx)) hG6)
          clear hE5 hOj hG6 hG
          go_wp2
          go_roundw
          case rel => exact ⟨j + 1, by omega, by go_num, hO6, hG7⟩
          case measure => simp [intOf] <;> omega
        · have hje : j = a.length := by omega
          subst hje
          rw [negTo_all] at hOj
          have hYj := hOYr.other hG (Ne.symm hxy)
          have hCj := hC.trans (Chg.of_grown hG (.inl rfl))
          go_wp2
          go_roundw
          case rel => exact ⟨1, by omega, by go_num, by rw [if_pos (by omega)]; exact hOj, by rw [if_neg (by omega)]; exact hYj, hCj⟩
          case measure => simp [intOf]
    · rw [if_pos (by omega)] at hOXr
      rw [if_neg (by omega)] at hOYr
      rw [show ((1 : Nat) : Int) = 1 from rfl]
      have hOY := hOYr
      go_wp2_with fail
      go_loopw [18] (fun jdx wi => ∃ j : Nat, j ≤ a2.length ∧ jdx = .int .i64 j ∧ OwnV 80 w0.heap.size wi gy cy (ss (negTo j a2)) ∧ V.grownBy wi (some gy)) (fun jdx _ => a2.length - (intOf jdx).toNat)
      case atStart => exact ⟨0, by omega, by go_num, by rw [negTo_zero]; exact hOY, World.grownBy.refl _ _⟩
      case round =>
        obtain ⟨j, hj, rfl, hOj, hG⟩ := hrel
        by_cases hlt : j < a2.length
        · obtain ⟨x, hx⟩ : ∃ x, x = a2[j] := ⟨_, rfl⟩
          have cj : wr.cell? ⟨gy, j, none⟩ = some (I x) := by
            rw [hOj.cell (by simpa using hlt)]
            simp only [ss, List.getElem_map]
            rw [negTo_get hlt, hx]
          have hneg := Lib.hid (Neg_any (z := x) (Hb2.out x (by rw [hx]; exact List.getElem_mem hlt)))
          have Hst := Lib.hid (negTo_step hlt)
          rw [← hx] at Hst
          have hjj : (j : Int) < (a2.length : Int) := by omega
          clear hx hOY hOYr
          go_wp2_with fail
          refine (hneg.out _).mono ?_
          rintro e w5 ⟨rfl, hE5⟩
          have f5 := (hOj.ext hE5).frozen j
          have d5 := hE5.cell cj
          obtain ⟨hO6, hG6⟩ := (hOj.ext hE5).set j (I (-x))
          rw [← ss_set, ← Hst.out] at hO6
          have hG7 := grown_trans hG (grown_trans (grown_ext hE5 (some gy)) hG6)
          clear hE5 hOj hG6 hG
          go_wp2
          go_roundw
          case rel => exact ⟨j + 1, by omega, by go_num, hO6, hG7⟩
          case measure => simp [intOf] <;> omega
        · have hje : j = a2.length := by omega
          subst hje
          rw [negTo_all] at hOj
          have hXj := hOXr.other hG hxy
          have hCj := hC.trans (Chg.of_grown hG (.inr rfl))
          go_wp2
          go_roundw
          case rel => exact ⟨2, by omega, by go_num, by rw [if_pos (by omega)]; exact hXj, by rw [if_pos (by omega)]; exact hOj, hCj⟩
          case measure => simp [intOf]
    · rw [if_pos (by omega)] at hOXr hOYr
      rw [show ((2 : Nat) : Int) = 2 from rfl]
      go_wp2
      go_end0
      exact ⟨rfl, hOXr, hOYr, (Chg.of_ext hEW).trans hC⟩
end Go.Proofs.YtkjnjmihfonilaaGreatDoor
