/- Part 30 of the proof of the claim: contracts of the functions that it reaches, and plain laws; no condition. -/
import Derived.Test.YtnmmglnadnfoiaaGreatDoorV29
import Derived.BigQuiet
import Derived.Test.YtnmmglnadnfoiaaGreatDoorV07
import Derived.Test.YtnmmglnadnfoiaaGreatDoorV13
import Derived.Test.YtnmmglnadnfoiaaGreatDoorRows
import Derived.ProofKit
import Derived.LaidMore
import Derived.OpenShut
import Derived.Stop.Joined
import Derived.Stop.LaidErr
import Derived.Lib.LaidTab
import Derived.Deep.Matrix
import Derived.Test.YtnmmglnadnfoiaaGreatDoorV27
/- schismalaw44: LayoutAdds. (Printed by gen_lad.py.) -/
namespace Go.Proofs.YtnmmglnadnfoiaaGreatDoor
open Go.RowKit Go.Sort
theorem KeysV.shape {B : Nat} {w : World} {v : Value} {l : List (Int × Int)} (h : KeysV B w v l) : ∃ a c, v = .slice a l.length c := by
  rcases h.2 with ⟨rfl, h0⟩ | ⟨g, cap, cur, rfl, _⟩
  · exact ⟨_, _, by rw [h0]⟩
  · exact ⟨_, _, rfl⟩
set_option maxRecDepth 100000 in
set_option maxHeartbeats 4000000 in
theorem lad_walk {w : World} {P : Pl} {kx ky y0 y1 y2 : Int} (hP : P.ok) (hkx : -128 ≤ kx ∧ kx ≤ 127) (hky : -128 ≤ ky ∧ ky ≤ 127) (h0 : -128 ≤ y0 ∧ y0 ≤ 127) (h1 : -128 ≤ y1 ∧ y1 ≤ 127) (h2 : -128 ≤ y2 ∧ y2 ≤ 127) (hL : Laid w) :
    Calls Tryz.prog 12 #[P.v, .agg #[.int .i8 kx, .int .i8 ky], .agg #[.int .i8 y0, .int .i8 y1, .int .i8 y2]] w fun e w' => e = .returned (.bool true) ∧ Ext w w' := by
  have hn3 := P.n3
  have hkn := Lib.hid (fun W (hW : Ext w W) => known44_any (hL.ext hW))
  have hmk := Lib.hid (fun W => make44 (w := W) hP)
  have hrw := Lib.hid (fun W => row44_any (w := W) (n := P.n) hn3 h0 h1 h2)
  have hql : (plTo P.n [y0, y1, y2] P.n).length = P.n := plTo_length (by simpa using hn3) (Nat.le_refl _)
  have hq9 := plTo_small (n := P.n) (l := [y0, y1, y2])
  have hqc : chkRow (plTo P.n [y0, y1, y2] P.n) = 0 := plTo_chk hn3 (by simpa using hn3)
  obtain ⟨q, hqe⟩ : ∃ q, q = plTo P.n [y0, y1, y2] P.n := ⟨_, rfl⟩
  rw [← hqe] at hrw hql hq9 hqc
  have Hql := Lib.hid hql
  have Hq9 := Lib.hid hq9
  have Hqc := Lib.hid hqc
  have hno := Lib.hid (fun W g1 g2 g3 (x y : Int) (h : PlP W P g1 g2 g3) (hx : -1000 ≤ x ∧ x ≤ 1000) (hy : -1000 ≤ y ∧ y ≤ 1000) => Note_ok h (x := x) (y := y) (by omega) (by omega) (atL_chk (by omega) (by omega)))
  have hma := Lib.hid (fun W g1 g2 g3 gb (h : PlP W P g1 g2 g3) (hW : Ext w W) (hq : RowR W (slv gb P.n P.n) q) => Move_any h hq hql hqc hn3 (hL.ext hW))
  have hal := Lib.hid (fun W g1 g2 g3 (h : PlP W P g1 g2 g3) (hW : Ext w W) => Alike_any h hn3 (hL.ext hW))
  have Hlen := Lib.hid (fun x y => atL_len (P := P) x y)
  have Hchk := Lib.hid (fun x y (hx : -1000 ≤ x ∧ x ≤ 1000) (hy : -1000 ≤ y ∧ y ≤ 1000) => atL_chk (P := P) (x := x) (y := y) (by omega) (by omega))
  have hX : Ext w (((w.alloc (.cells #[.bool P.hx, .int .u8 P.m, .int .i8 P.a, .int .i8 P.b, .int .i8 P.c, .int .i8 P.d, .int .i8 P.e, .int .i8 P.f, .int .i8 P.p, .int .i8 P.q, .int .i8 P.s] 25)).alloc (.cells #[.int .i8 kx, .int .i8 ky] 77)).alloc (.cells #[.int .i8 y0, .int .i8 y1, .int .i8 y2] 23)) := (((Ext.refl w).alloc _).alloc _).alloc _
  have hpc := ((plC_new w P).ext ((Ext.refl _).alloc (.cells #[.int .i8 kx, .int .i8 ky] 77))).ext ((Ext.refl _).alloc (.cells #[.int .i8 y0, .int .i8 y1, .int .i8 y2] 23))
  obtain ⟨bp, hbp⟩ : ∃ bp, bp = w.heap.size := ⟨_, rfl⟩
  have r0 : (((w.alloc (.cells #[.bool P.hx, .int .u8 P.m, .int .i8 P.a, .int .i8 P.b, .int .i8 P.c, .int .i8 P.d, .int .i8 P.e, .int .i8 P.f, .int .i8 P.p, .int .i8 P.q, .int .i8 P.s] 25)).alloc (.cells #[.int .i8 kx, .int .i8 ky] 77)).alloc (.cells #[.int .i8 y0, .int .i8 y1, .int .i8 y2] 23)).cell? ⟨bp + 1, 0, none⟩ = some (.int .i8 kx) := by rw [hbp]; go_simp
  have r1 : (((w.alloc (.cells #[.bool P.hx, .int .u8 P.m, .int .i8 P.a, .int .i8 P.b, .int .i8 P.c, .int .i8 P.d, .int .i8 P.e, .int .i8 P.f, .int .i8 P.p, .int .i8 P.q, .int .i8 P.s] 25)).alloc (.cells #[.int .i8 kx, .int .i8 ky] 77)).alloc (.cells #[.int .i8 y0, .int .i8 y1, .int .i8 y2] 23)).cell? ⟨bp + 1, 1, none⟩ = some (.int .i8 ky) := by rw [hbp]; go_simp
  have s0 : (((w.alloc (.cells #[.bool P.hx, .int .u8 P.m, .int .i8 P.a, .int .i8 P.b, .int .i8 P.c, .int .i8 P.d, .int .i8 P.e, .int .i8 P.f, .int .i8 P.p, .int .i8 P.q, .int .i8 P.s] 25)).alloc (.cells #[.int .i8 kx, .int .i8 ky] 77)).alloc (.cells #[.int .i8 y0, .int .i8 y1, .int .i8 y2] 23)).cell? ⟨bp + 1 + 1, 0, none⟩ = some (.int .i8 y0) := by rw [hbp]; go_simp
  have s1 : (((w.alloc (.cells #[.bool P.hx, .int .u8 P.m, .int .i8 P.a, .int .i8 P.b, .int .i8 P.c, .int .i8 P.d, .int .i8 P.e, .int .i8 P.f, .int .i8 P.p, .int .i8 P.q, .int .i8 P.s] 25)).alloc (.cells #[.int .i8 kx, .int .i8 ky] 77)).alloc (.cells #[.int .i8 y0, .int .i8 y1, .int .i8 y2] 23)).cell? ⟨bp + 1 + 1, 1, none⟩ = some (.int .i8 y1) := by rw [hbp]; go_simp
  have s2 : (((w.alloc (.cells #[.bool P.hx, .int .u8 P.m, .int .i8 P.a, .int .i8 P.b, .int .i8 P.c, .int .i8 P.d, .int .i8 P.e, .int .i8 P.f, .int .i8 P.p, .int .i8 P.q, .int .i8 P.s] 25)).alloc (.cells #[.int .i8 kx, .int .i8 ky] 77)).alloc (.cells #[.int .i8 y0, .int .i8 y1, .int .i8 y2] 23)).cell? ⟨bp + 1 + 1, 2, none⟩ = some (.int .i8 y2) := by rw [hbp]; go_simp
  rw [← hbp] at hpc
  obtain ⟨hk1, hk2⟩ := hkx
  obtain ⟨hk3, hk4⟩ := hky
  clear hL hP hqe hql hq9 hqc h0 h1 h2
  go_enter Tryz.func12, Tryz.ntmps12
  go_wp2_with fail
  refine (hkn.out _ hX).mono ?_
  rintro e w1 ⟨rfl, hE1⟩
  have hX1 := hX.trans hE1
  obtain ⟨k0, k1, k2, k3, k4, k5, k6, k7, k8, k9, k10⟩ := hpc.ext hE1
  replace r0 := hE1.cell r0
  replace r1 := hE1.cell r1
  replace s0 := hE1.cell s0
  replace s1 := hE1.cell s1
  replace s2 := hE1.cell s2
  rw [← hbp]
  clear hE1 hX hpc hbp hkn
  go_wp2_with fail
  refine (hmk.out _).mono ?_
  rintro e w2 ⟨g1, g2, g3, rfl, hP2, hE2⟩
  have hX2 := hX1.trans hE2
  have hb := layC_new w2 P.k P.n g1 P.n g2 P.n g3 P.n
  obtain ⟨bl, hbl⟩ : ∃ bl, bl = w2.heap.size := ⟨_, rfl⟩
  rw [← hbl] at hb
  have hE3 := hE2.alloc (.cells #[.int .i64 P.k, slv g1 P.n P.n, slv g2 P.n P.n, slv g3 P.n P.n] 32)
  replace r0 := hE3.cell r0
  replace r1 := hE3.cell r1
  replace s0 := hE3.cell s0
  replace s1 := hE3.cell s1
  replace s2 := hE3.cell s2
  have t0 := hE2.cell k0
  have dp := World.block_lt_of_cell? _ _ t0
  have hX3 := hX2.alloc (.cells #[.int .i64 P.k, slv g1 P.n P.n, slv g2 P.n P.n, slv g3 P.n P.n] 32)
  have HP3 := Lib.hid (hP2.ext ((Ext.refl w2).alloc (.cells #[.int .i64 P.k, slv g1 P.n P.n, slv g2 P.n P.n, slv g3 P.n P.n] 32)))
  obtain ⟨W3, hW3⟩ : ∃ W3, w2.alloc (.cells #[.int .i64 P.k, slv g1 P.n P.n, slv g2 P.n P.n, slv g3 P.n P.n] 32) = W3 := ⟨_, rfl⟩
  clear k0 k1 k2 k3 k4 k5 k6 k7 k8 k9 k10 hE2 hP2 hX1 hX2 hmk t0 dp hE3
  go_upto_region 4 with fail
  rw [hW3] at r0 r1 s0 s1 s2 hb hX3 HP3
  rw [← hbl]
  have hE0 := Ext.refl W3
  obtain ⟨l0, l1, l2, l3⟩ := hb
  have hb3 := Lib.hid (⟨l0, l1, l2, l3⟩ : LayC W3 bl P.k P.n g1 P.n g2 P.n g3 P.n)
  clear hbl hW3
  go_wp2_with fail
  refine (hrw.out _).mono ?_
  rintro e w4 ⟨gb, rfl, hOb, hE4⟩
  replace r0 := hE4.cell r0
  replace r1 := hE4.cell r1
  have HOb := Lib.hid (own_rowx hOb Hql.out)
  have hb4 := Lib.hid (hb3.out.ext hE4)
  have hX4 := hX3.trans hE4
  have HP4 := Lib.hid (HP3.out.ext hE4)
  have dl := World.block_lt_of_cell? _ _ hb4.out.c0
  obtain ⟨bk, hbk⟩ : ∃ bk, bk = w4.heap.size := ⟨_, rfl⟩
  have hE5 := (Ext.refl w4).alloc (.cells #[.int .i64 kx, .int .i64 ky] 27)
  have c0 : (w4.alloc (.cells #[.int .i64 kx, .int .i64 ky] 27)).cell? ⟨bk, 0, none⟩ = some (.int .i64 kx) := by rw [hbk]; go_simp
  have c1 : (w4.alloc (.cells #[.int .i64 kx, .int .i64 ky] 27)).cell? ⟨bk, 1, none⟩ = some (.int .i64 ky) := by rw [hbk]; go_simp
  obtain ⟨l0, l1, l2, l3⟩ := hb4.out
  have HP5 := Lib.hid (HP4.out.ext hE5)
  have hX5 := hX4.trans hE5
  have hb5 := Lib.hid (hb4.out.ext hE5)
  have HOb5 := Lib.hid (HOb.out.ext hE5)
  have hn5 := Lib.hid (hno.out _ g1 g2 g3 kx ky HP5.out ⟨by omega, by omega⟩ ⟨by omega, by omega⟩)
  clear hrw s0 s1 s2 hOb hE4 hX3 HP3 HOb hb4 hX4 HP4 hE5 hb3
  go_wp2_with fail
  rw [← hbk]
  refine hn5.out.mono ?_
  rintro e w5 ⟨⟨ga, rfl, hOa⟩, hE6⟩
  have HOa := Lib.hid (own_rowx hOa (Hlen.out kx ky))
  replace c0 := hE6.cell c0
  replace c1 := hE6.cell c1
  obtain ⟨l0, l1, l2, l3⟩ := hb5.out.ext hE6
  have hb6 := Lib.hid (hb5.out.ext hE6)
  have hX6 := hX5.trans hE6
  have HP6 := Lib.hid (HP5.out.ext hE6)
  have HOb6 := Lib.hid (HOb5.out.ext hE6)
  have hm6 := Lib.hid (hma.out w5 g1 g2 g3 gb HP6.out hX6 HOb6.out)
  clear hn5 hOa hE6 hb5 hX5 HP5 HOb5 hma hbk dl r0 r1
  go_wp2_with fail
  refine hm6.out.mono ?_
  rintro e w6 hp
  obtain ⟨a2, b2, f2, z2, rfl, hR, hE7⟩ := hp.res Hql.out
  obtain ⟨rfl, hf⟩ := hR.small P.lr P.lu Hql.out (fun z hz => plTo_small (n := P.n) (l := [P.d, P.e, P.f]) z hz) (fun z hz => plTo_small (n := P.n) (l := [P.p, P.q, P.s]) z hz) Hq9.out
  have Hf := Lib.hid hf
  replace c0 := hE7.cell c0
  replace c1 := hE7.cell c1
  have dl := World.block_lt_of_cell? _ _ (hE7.cell l0)
  have dk := World.block_lt_of_cell? _ _ c0
  obtain ⟨bw, hbw⟩ : ∃ bw, bw = w6.heap.size := ⟨_, rfl⟩
  have hE8 := (Ext.refl w6).alloc (.cells #[.int .i64 a2, .int .i64 b2] 27)
  have d0 : (w6.alloc (.cells #[.int .i64 a2, .int .i64 b2] 27)).cell? ⟨bw, 0, none⟩ = some (.int .i64 a2) := by rw [hbw]; go_simp
  have d1 : (w6.alloc (.cells #[.int .i64 a2, .int .i64 b2] 27)).cell? ⟨bw, 1, none⟩ = some (.int .i64 b2) := by rw [hbw]; go_simp
  replace c0 := hE8.cell c0
  replace c1 := hE8.cell c1
  have hb8 := Lib.hid ((hb6.out.ext hE7).ext hE8)
  have hX8 := (hX6.trans hE7).trans hE8
  have HP8 := Lib.hid ((HP6.out.ext hE7).ext hE8)
  have HOb8 := Lib.hid ((HOb6.out.ext hE7).ext hE8)
  have HOa8 := Lib.hid ((HOa.out.ext hE7).ext hE8)
  obtain ⟨W8, hW8⟩ : ∃ W8, w6.alloc (.cells #[.int .i64 a2, .int .i64 b2] 27) = W8 := ⟨_, rfl⟩
  rw [hW8] at c0 c1 d0 d1 hb8 hX8 HP8 HOb8 HOa8
  clear hm6 hR hp hf hE7 hE8 hb6 hX6 HP6 HOb6 HOa l0 l1 l2 l3 dl dk
  go_upto_region 10 with fail
  rw [← hbw]
  clear hW8 hbw
  obtain ⟨l0, l1, l2, l3⟩ := hb8.out
  cases f2
  · have hcut := Ext.refl W8
    clear l0 l1 l2 l3
    have hX9 := hX8.trans hcut
    replace c0 := hcut.cell c0
    replace c1 := hcut.cell c1
    have hb9 := Lib.hid (hb8.out.ext hcut)
    have HP9 := Lib.hid (HP8.out.ext hcut)
    have HOa9 := Lib.hid (HOa8.out.ext hcut)
    have hl9 := Lib.hid (hal.out W8 g1 g2 g3 HP9.out hX9)
    obtain ⟨l0, l1, l2, l3⟩ := hb9.out
    clear hX8 hb8 HP8 HOa8 HOb8 d0 d1 hcut hal Hf
    go_wp2_with fail
    refine hl9.out.mono ?_
    rintro e w10 ⟨H, hH, hp, hE10⟩
    obtain ⟨hsm, hwl, hwy⟩ := ways_ok P.lr P.lu (fun z hz => plTo_small (n := P.n) (l := [P.d, P.e, P.f]) z hz) (fun z hz => plTo_small (n := P.n) (l := [P.p, P.q, P.s]) z hz) hH
    rw [if_pos hsm] at hp
    obtain ⟨v, rfl, hv⟩ := hp
    obtain ⟨K, hK⟩ : ∃ K, K = waysOf (krn P.n H) := ⟨_, rfl⟩
    rw [← hK] at hv hwl hwy
    have Hwy := Lib.hid hwy
    have HV := Lib.hid hv
    obtain ⟨va, vc, rfl⟩ := hv.shape
    obtain ⟨L, hL⟩ : ∃ L, L = K.length := ⟨_, rfl⟩
    have HL := Lib.hid hL
    rw [← hL] at hwl HV ⊢
    replace c0 := hE10.cell c0
    replace c1 := hE10.cell c1
    have hb10 := Lib.hid (hb9.out.ext hE10)
    have HP10 := Lib.hid (HP9.out.ext hE10)
    have HOa10 := Lib.hid (HOa9.out.ext hE10)
    have hX10 := hX9.trans hE10
    clear hl9 hH hsm hwy hv hK hL hb9 HP9 HOa9 hX9 hE10 l0 l1 l2 l3
    go_wp2_with fail
    go_loopw [21, 22, 23] (fun idx bv ev wr => ∃ i : Nat, i ≤ L ∧ idx = .int .i64 i ∧ Ext w10 wr) (fun idx _ _ _ => L - (intOf idx).toNat)
    case atStart => exact ⟨0, by omega, by go_num, Ext.refl _⟩
    case round =>
      obtain ⟨i, hi, rfl, hE⟩ := hrel
      generalize wr = X at *
      by_cases hlt : i < L
      · have hii : (i : Int) < (L : Int) := by omega
        have hiK : i < K.length := by rw [← HL.out]; exact hlt
        obtain ⟨gv, cv, hveq, hKR⟩ := HV.out.open (by omega)
        injection hveq with e1 e2 e3
        subst e1 e3
        have j0 := (hKR.ext hE).x i hiK
        have j1 := (hKR.ext hE).y i hiK
        obtain ⟨⟨ha1, ha2⟩, ⟨hb1, hb2⟩, hcm⟩ := Hwy.out _ (List.getElem_mem hiK)
        have HA := Lib.hid (at_same (x := kx) (y := ky) P.lo P.lr P.lu hcm)
        obtain ⟨wx, hwx⟩ : ∃ wx, wx = K[i].1 := ⟨_, rfl⟩
        obtain ⟨wy, hwy⟩ : ∃ wy, wy = K[i].2 := ⟨_, rfl⟩
        rw [← hwx] at j0 ha1 ha2 HA
        rw [← hwy] at j1 hb1 hb2 HA
        have hE0 := hE
        have q0 := hE.cell c0
        have q1 := hE.cell c1
        obtain ⟨l0, l1, l2, l3⟩ := hb10.out.ext hE
        clear hcm hwx hwy hKR e2 hiK
        have d7 : Ext X X.drew := (Ext.refl X).drew
        have hw1 : IntKind.i64.wrap (kx + wx) = kx + wx := IntWalk.i64_in _ (by omega)
        have hw2 : IntKind.i64.wrap (ky + wy) = ky + wy := IntWalk.i64_in _ (by omega)
        go_wp2_with fail
        refine wp_region_held_tail (S := fun W => Ext X W) 23 (by kernel_rfl) (by simp) ?_
        intro inv
        refine wpAnyLH_take (i := 0) (v := layv P.k P.n g1 P.n g2 P.n g3 P.n) rfl (by kernel_rfl) (fun _ _ _ h => h) (.inl ⟨by rfl, fun W hW => by have z0 := hW.cell l0; have z1 := hW.cell l1; have z2 := hW.cell l2; have z3 := hW.cell l3; go_simp⟩) d7 inv ?_
        intro inv
        go_simp
        refine wpAnyLH_take (i := 1) (v := .pointer (some ⟨bk, 0, none⟩)) rfl (by kernel_rfl) (fun _ _ _ h => h) (.inl ⟨by rfl, fun W hW => by go_simp⟩) d7 inv ?_
        intro inv
        go_simp
        refine wpAnyLH_take (i := 2) (v := .int .i64 kx) rfl (by kernel_rfl) (fun _ _ _ h => h) (.inl ⟨by rfl, fun W hW => by have z0 := hW.cell q0; go_simp⟩) d7 inv ?_
        intro inv
        go_simp
        refine wpAnyLH_take (i := 3) (v := .slice (some ⟨gv, 0, none⟩) L vc) rfl (by kernel_rfl) (fun _ _ _ h => h) (.inl ⟨by rfl, fun W hW => by go_simp⟩) d7 inv ?_
        intro inv
        go_simp
        refine wpAnyLH_take (i := 4) (v := .int .i64 i) rfl (by kernel_rfl) (fun _ _ _ h => h) (.inl ⟨by rfl, fun W hW => by go_simp⟩) d7 inv ?_
        intro inv
        go_simp
        refine wpAnyLH_take (i := 5) (v := .pointer (some ⟨gv, i * 2, none⟩)) rfl (by kernel_rfl) (fun _ _ _ h => h) (.inl ⟨by rfl, fun W hW => by go_simp⟩) d7 inv ?_
        intro inv
        go_simp
        refine wpAnyLH_take (i := 6) (v := .pointer (some ⟨gv, i * 2, none⟩)) rfl (by kernel_rfl) (fun _ _ _ h => h) (.inl ⟨by rfl, fun W hW => by go_simp⟩) d7 inv ?_
        intro inv
        go_simp
        refine wpAnyLH_take (i := 7) (v := .int .i64 wx) rfl (by kernel_rfl) (fun _ _ _ h => h) (.inl ⟨by rfl, fun W hW => by have z0 := hW.cell j0; go_simp⟩) d7 inv ?_
        intro inv
        go_simp
        refine wpAnyLH_take (i := 8) (v := .int .i64 (kx + wx)) rfl (by kernel_rfl) (fun _ _ _ h => h) (.inl ⟨by rfl, fun W hW => by go_simp⟩) d7 inv ?_
        intro inv
        go_simp
        refine wpAnyLH_take (i := 9) (v := .pointer (some ⟨bk, 1, none⟩)) rfl (by kernel_rfl) (fun _ _ _ h => h) (.inl ⟨by rfl, fun W hW => by go_simp⟩) d7 inv ?_
        intro inv
        go_simp
        refine wpAnyLH_take (i := 10) (v := .int .i64 ky) rfl (by kernel_rfl) (fun _ _ _ h => h) (.inl ⟨by rfl, fun W hW => by have z0 := hW.cell q1; go_simp⟩) d7 inv ?_
        intro inv
        go_simp
        refine wpAnyLH_take (i := 11) (v := .slice (some ⟨gv, 0, none⟩) L vc) rfl (by kernel_rfl) (fun _ _ _ h => h) (.inl ⟨by rfl, fun W hW => by go_simp⟩) d7 inv ?_
        intro inv
        go_simp
        refine wpAnyLH_take (i := 12) (v := .int .i64 i) rfl (by kernel_rfl) (fun _ _ _ h => h) (.inl ⟨by rfl, fun W hW => by go_simp⟩) d7 inv ?_
        intro inv
        go_simp
        refine wpAnyLH_take (i := 13) (v := .pointer (some ⟨gv, i * 2, none⟩)) rfl (by kernel_rfl) (fun _ _ _ h => h) (.inl ⟨by rfl, fun W hW => by go_simp⟩) d7 inv ?_
        intro inv
        go_simp
        refine wpAnyLH_take (i := 14) (v := .pointer (some ⟨gv, i * 2 + 1, none⟩)) rfl (by kernel_rfl) (fun _ _ _ h => h) (.inl ⟨by rfl, fun W hW => by go_simp⟩) d7 inv ?_
        intro inv
        go_simp
        refine wpAnyLH_take (i := 15) (v := .int .i64 wy) rfl (by kernel_rfl) (fun _ _ _ h => h) (.inl ⟨by rfl, fun W hW => by have z0 := hW.cell j1; go_simp⟩) d7 inv ?_
        intro inv
        go_simp
        refine wpAnyLH_take (i := 16) (v := .int .i64 (ky + wy)) rfl (by kernel_rfl) (fun _ _ _ h => h) (.inl ⟨by rfl, fun W hW => by go_simp⟩) d7 inv ?_
        intro inv
        go_simp
        refine wpAnyLH_take (i := 17) (v := .agg #[.int .i64 (kx + wx), .int .i64 (ky + wy)]) rfl (by kernel_rfl) (fun _ _ _ h => h) (.inl ⟨by rfl, fun W hW => by go_simp⟩) d7 inv ?_
        intro inv
        go_simp
        refine wpAnyLH_one (i := 18) rfl (by kernel_rfl) (fun K8 hK8 => ?_)
        go_simp
        refine (hno.out X.drew g1 g2 g3 (kx + wx) (ky + wy) (HP10.out.ext (hE.trans d7)) ⟨by omega, by omega⟩ ⟨by omega, by omega⟩).mono ?_
        rintro e w6 ⟨⟨gc, rfl, hOc⟩, hE6⟩
        have d8 := d7.trans hE6
        refine hK8 _ _ d8 ?_
        clear hK8
        have inv := HeadInv.set (i := 18) inv (by decide +kernel) (by decide)
        refine wpAnyLH_take (i := 19) (v := .tuple #[slv gc P.n P.n, .int .i64 0]) rfl (by kernel_rfl) (fun _ _ _ h => h) (.inl ⟨by rfl, fun W hW => by go_simp⟩) d8 inv ?_
        intro inv
        go_simp
        refine wpAnyLH_take (i := 20) (v := slv gc P.n P.n) rfl (by kernel_rfl) (fun _ _ _ h => h) (.inl ⟨by rfl, fun W hW => by go_simp⟩) d8 inv ?_
        intro inv
        go_simp
        refine wpAnyLH_take (i := 21) (v := .int .i64 0) rfl (by kernel_rfl) (fun _ _ _ h => h) (.inl ⟨by rfl, fun W hW => by go_simp⟩) d8 inv ?_
        intro inv
        go_simp
        refine wpAnyLH_one (i := 22) rfl (by kernel_rfl) (fun K9 hK9 => ?_)
        go_simp
        refine hK9 _ _ d8 ?_
        clear hK9
        refine wpAnyLH_end (by kernel_rfl) ?_
        have hE5 := hE.trans d8
        clear hE6
        rw [HA.out] at hOc
        have hX6 := hE5
        have heq := Lib.hid (rowEqual_any (HOa10.out.ext hX6) (own_rowx hOc (Hlen.out _ _)) (by rw [Hlen.out]; omega))
        rw [decide_eq_true rfl] at heq
        clear hOc
        go_wp2_with fail
        refine heq.out.mono ?_
        rintro e w7 ⟨rfl, hE7⟩
        have hX7 := hX6.trans hE7
        clear heq
        go_wp2_with fail
        go_roundw
        case rel => exact ⟨i + 1, by omega, by go_num, hX7⟩
        case measure => simp [intOf] <;> omega
      · have hii : ¬ (i : Int) < (L : Int) := by omega
        have hX11 := hX10.trans hE
        go_wp2_with fail
        go_ret
        exact ⟨rfl, hX11⟩
  · obtain ⟨⟨ha1, ha2⟩, ⟨hb1, hb2⟩, hcm⟩ := Hf.out rfl
    have HA := Lib.hid (at_add (x := kx) (y := ky) P.lo P.lr P.lu Hql.out hcm)
    have hn8 := Lib.hid (hno.out W8 g1 g2 g3 (kx + a2) (ky + b2) HP8.out ⟨by omega, by omega⟩ ⟨by omega, by omega⟩)
    have Hc8 := Lib.hid (Hchk.out (kx + a2) (ky + b2) ⟨by omega, by omega⟩ ⟨by omega, by omega⟩)
    have Hc0 := Lib.hid (Hchk.out kx ky ⟨by omega, by omega⟩ ⟨by omega, by omega⟩)
    clear hcm
    go_wp2_with fail
    refine hn8.out.mono ?_
    rintro e w9 ⟨⟨gc, rfl, hOc⟩, hE9⟩
    have HOc := Lib.hid (own_rowx hOc (Hlen.out _ _))
    have had := Lib.hid (rowAdd_any (HOa8.out.ext hE9) (HOb8.out.ext hE9) Hc0.out Hqc.out (Hlen.out _ _) Hql.out)
    clear hn8 hOc l0 l1 l2 l3
    go_wp2_with fail
    refine had.out.mono ?_
    rintro e w10 ⟨gs, cs, rfl, hs, hE10⟩
    rw [← HA.out, Hc8.out]
    have hcs := Lib.hid (rowEqual_any (HOc.out.ext hE10) hs.row (by rw [Hlen.out]; omega))
    rw [HA.out, decide_eq_true rfl] at hcs
    have hX10 := hE9.trans hE10
    clear had hE9 hE10 hs
    go_wp2_with fail
    refine hcs.out.mono ?_
    rintro e W9 ⟨rfl, hE11⟩
    have hcut := hX10.trans hE11
    clear hcs ha1 ha2 hb1 hb2
    have hX9 := hX8.trans hcut
    replace c0 := hcut.cell c0
    replace c1 := hcut.cell c1
    have hb9 := Lib.hid (hb8.out.ext hcut)
    have HP9 := Lib.hid (HP8.out.ext hcut)
    have HOa9 := Lib.hid (HOa8.out.ext hcut)
    have hl9 := Lib.hid (hal.out W9 g1 g2 g3 HP9.out hX9)
    obtain ⟨l0, l1, l2, l3⟩ := hb9.out
    clear hX8 hb8 HP8 HOa8 HOb8 d0 d1 hcut hal Hf
    go_wp2_with fail
    refine hl9.out.mono ?_
    rintro e w10 ⟨H, hH, hp, hE10⟩
    obtain ⟨hsm, hwl, hwy⟩ := ways_ok P.lr P.lu (fun z hz => plTo_small (n := P.n) (l := [P.d, P.e, P.f]) z hz) (fun z hz => plTo_small (n := P.n) (l := [P.p, P.q, P.s]) z hz) hH
    rw [if_pos hsm] at hp
    obtain ⟨v, rfl, hv⟩ := hp
    obtain ⟨K, hK⟩ : ∃ K, K = waysOf (krn P.n H) := ⟨_, rfl⟩
    rw [← hK] at hv hwl hwy
    have Hwy := Lib.hid hwy
    have HV := Lib.hid hv
    obtain ⟨va, vc, rfl⟩ := hv.shape
    obtain ⟨L, hL⟩ : ∃ L, L = K.length := ⟨_, rfl⟩
    have HL := Lib.hid hL
    rw [← hL] at hwl HV ⊢
    replace c0 := hE10.cell c0
    replace c1 := hE10.cell c1
    have hb10 := Lib.hid (hb9.out.ext hE10)
    have HP10 := Lib.hid (HP9.out.ext hE10)
    have HOa10 := Lib.hid (HOa9.out.ext hE10)
    have hX10 := hX9.trans hE10
    clear hl9 hH hsm hwy hv hK hL hb9 HP9 HOa9 hX9 hE10 l0 l1 l2 l3
    go_wp2_with fail
    go_loopw [21, 22, 23] (fun idx bv ev wr => ∃ i : Nat, i ≤ L ∧ idx = .int .i64 i ∧ Ext w10 wr) (fun idx _ _ _ => L - (intOf idx).toNat)
    case atStart => exact ⟨0, by omega, by go_num, Ext.refl _⟩
    case round =>
      obtain ⟨i, hi, rfl, hE⟩ := hrel
      generalize wr = X at *
      by_cases hlt : i < L
      · have hii : (i : Int) < (L : Int) := by omega
        have hiK : i < K.length := by rw [← HL.out]; exact hlt
        obtain ⟨gv, cv, hveq, hKR⟩ := HV.out.open (by omega)
        injection hveq with e1 e2 e3
        subst e1 e3
        have j0 := (hKR.ext hE).x i hiK
        have j1 := (hKR.ext hE).y i hiK
        obtain ⟨⟨ha1, ha2⟩, ⟨hb1, hb2⟩, hcm⟩ := Hwy.out _ (List.getElem_mem hiK)
        have HA := Lib.hid (at_same (x := kx) (y := ky) P.lo P.lr P.lu hcm)
        obtain ⟨wx, hwx⟩ : ∃ wx, wx = K[i].1 := ⟨_, rfl⟩
        obtain ⟨wy, hwy⟩ : ∃ wy, wy = K[i].2 := ⟨_, rfl⟩
        rw [← hwx] at j0 ha1 ha2 HA
        rw [← hwy] at j1 hb1 hb2 HA
        have hE0 := hE
        have q0 := hE.cell c0
        have q1 := hE.cell c1
        obtain ⟨l0, l1, l2, l3⟩ := hb10.out.ext hE
        clear hcm hwx hwy hKR e2 hiK
        have d7 : Ext X X.drew := (Ext.refl X).drew
        have hw1 : IntKind.i64.wrap (kx + wx) = kx + wx := IntWalk.i64_in _ (by omega)
        have hw2 : IntKind.i64.wrap (ky + wy) = ky + wy := IntWalk.i64_in _ (by omega)
        go_wp2_with fail
        refine wp_region_held_tail (S := fun W => Ext X W) 23 (by kernel_rfl) (by simp) ?_
        intro inv
        refine wpAnyLH_take (i := 0) (v := layv P.k P.n g1 P.n g2 P.n g3 P.n) rfl (by kernel_rfl) (fun _ _ _ h => h) (.inl ⟨by rfl, fun W hW => by have z0 := hW.cell l0; have z1 := hW.cell l1; have z2 := hW.cell l2; have z3 := hW.cell l3; go_simp⟩) d7 inv ?_
        intro inv
        go_simp
        refine wpAnyLH_take (i := 1) (v := .pointer (some ⟨bk, 0, none⟩)) rfl (by kernel_rfl) (fun _ _ _ h => h) (.inl ⟨by rfl, fun W hW => by go_simp⟩) d7 inv ?_
        intro inv
        go_simp
        refine wpAnyLH_take (i := 2) (v := .int .i64 kx) rfl (by kernel_rfl) (fun _ _ _ h => h) (.inl ⟨by rfl, fun W hW => by have z0 := hW.cell q0; go_simp⟩) d7 inv ?_
        intro inv
        go_simp
        refine wpAnyLH_take (i := 3) (v := .slice (some ⟨gv, 0, none⟩) L vc) rfl (by kernel_rfl) (fun _ _ _ h => h) (.inl ⟨by rfl, fun W hW => by go_simp⟩) d7 inv ?_
        intro inv
        go_simp
        refine wpAnyLH_take (i := 4) (v := .int .i64 i) rfl (by kernel_rfl) (fun _ _ _ h => h) (.inl ⟨by rfl, fun W hW => by go_simp⟩) d7 inv ?_
        intro inv
        go_simp
        refine wpAnyLH_take (i := 5) (v := .pointer (some ⟨gv, i * 2, none⟩)) rfl (by kernel_rfl) (fun _ _ _ h => h) (.inl ⟨by rfl, fun W hW => by go_simp⟩) d7 inv ?_
        intro inv
        go_simp
        refine wpAnyLH_take (i := 6) (v := .pointer (some ⟨gv, i * 2, none⟩)) rfl (by kernel_rfl) (fun _ _ _ h => h) (.inl ⟨by rfl, fun W hW => by go_simp⟩) d7 inv ?_
        intro inv
        go_simp
        refine wpAnyLH_take (i := 7) (v := .int .i64 wx) rfl (by kernel_rfl) (fun _ _ _ h => h) (.inl ⟨by rfl, fun W hW => by have z0 := hW.cell j0; go_simp⟩) d7 inv ?_
        intro inv
        go_simp
        refine wpAnyLH_take (i := 8) (v := .int .i64 (kx + wx)) rfl (by kernel_rfl) (fun _ _ _ h => h) (.inl ⟨by rfl, fun W hW => by go_simp⟩) d7 inv ?_
        intro inv
        go_simp
        refine wpAnyLH_take (i := 9) (v := .pointer (some ⟨bk, 1, none⟩)) rfl (by kernel_rfl) (fun _ _ _ h => h) (.inl ⟨by rfl, fun W hW => by go_simp⟩) d7 inv ?_
        intro inv
        go_simp
        refine wpAnyLH_take (i := 10) (v := .int .i64 ky) rfl (by kernel_rfl) (fun _ _ _ h => h) (.inl ⟨by rfl, fun W hW => by have z0 := hW.cell q1; go_simp⟩) d7 inv ?_
        intro inv
        go_simp
        refine wpAnyLH_take (i := 11) (v := .slice (some ⟨gv, 0, none⟩) L vc) rfl (by kernel_rfl) (fun _ _ _ h => h) (.inl ⟨by rfl, fun W hW => by go_simp⟩) d7 inv ?_
        intro inv
        go_simp
        refine wpAnyLH_take (i := 12) (v := .int .i64 i) rfl (by kernel_rfl) (fun _ _ _ h => h) (.inl ⟨by rfl, fun W hW => by go_simp⟩) d7 inv ?_
        intro inv
        go_simp
        refine wpAnyLH_take (i := 13) (v := .pointer (some ⟨gv, i * 2, none⟩)) rfl (by kernel_rfl) (fun _ _ _ h => h) (.inl ⟨by rfl, fun W hW => by go_simp⟩) d7 inv ?_
        intro inv
        go_simp
        refine wpAnyLH_take (i := 14) (v := .pointer (some ⟨gv, i * 2 + 1, none⟩)) rfl (by kernel_rfl) (fun _ _ _ h => h) (.inl ⟨by rfl, fun W hW => by go_simp⟩) d7 inv ?_
        intro inv
        go_simp
        refine wpAnyLH_take (i := 15) (v := .int .i64 wy) rfl (by kernel_rfl) (fun _ _ _ h => h) (.inl ⟨by rfl, fun W hW => by have z0 := hW.cell j1; go_simp⟩) d7 inv ?_
        intro inv
        go_simp
        refine wpAnyLH_take (i := 16) (v := .int .i64 (ky + wy)) rfl (by kernel_rfl) (fun _ _ _ h => h) (.inl ⟨by rfl, fun W hW => by go_simp⟩) d7 inv ?_
        intro inv
        go_simp
        refine wpAnyLH_take (i := 17) (v := .agg #[.int .i64 (kx + wx), .int .i64 (ky + wy)]) rfl (by kernel_rfl) (fun _ _ _ h => h) (.inl ⟨by rfl, fun W hW => by go_simp⟩) d7 inv ?_
        intro inv
        go_simp
        refine wpAnyLH_one (i := 18) rfl (by kernel_rfl) (fun K8 hK8 => ?_)
        go_simp
        refine (hno.out X.drew g1 g2 g3 (kx + wx) (ky + wy) (HP10.out.ext (hE.trans d7)) ⟨by omega, by omega⟩ ⟨by omega, by omega⟩).mono ?_
        rintro e w6 ⟨⟨gc, rfl, hOc⟩, hE6⟩
        have d8 := d7.trans hE6
        refine hK8 _ _ d8 ?_
        clear hK8
        have inv := HeadInv.set (i := 18) inv (by decide +kernel) (by decide)
        refine wpAnyLH_take (i := 19) (v := .tuple #[slv gc P.n P.n, .int .i64 0]) rfl (by kernel_rfl) (fun _ _ _ h => h) (.inl ⟨by rfl, fun W hW => by go_simp⟩) d8 inv ?_
        intro inv
        go_simp
        refine wpAnyLH_take (i := 20) (v := slv gc P.n P.n) rfl (by kernel_rfl) (fun _ _ _ h => h) (.inl ⟨by rfl, fun W hW => by go_simp⟩) d8 inv ?_
        intro inv
        go_simp
        refine wpAnyLH_take (i := 21) (v := .int .i64 0) rfl (by kernel_rfl) (fun _ _ _ h => h) (.inl ⟨by rfl, fun W hW => by go_simp⟩) d8 inv ?_
        intro inv
        go_simp
        refine wpAnyLH_one (i := 22) rfl (by kernel_rfl) (fun K9 hK9 => ?_)
        go_simp
        refine hK9 _ _ d8 ?_
        clear hK9
        refine wpAnyLH_end (by kernel_rfl) ?_
        have hE5 := hE.trans d8
        clear hE6
        rw [HA.out] at hOc
        have hX6 := hE5
        have heq := Lib.hid (rowEqual_any (HOa10.out.ext hX6) (own_rowx hOc (Hlen.out _ _)) (by rw [Hlen.out]; omega))
        rw [decide_eq_true rfl] at heq
        clear hOc
        go_wp2_with fail
        refine heq.out.mono ?_
        rintro e w7 ⟨rfl, hE7⟩
        have hX7 := hX6.trans hE7
        clear heq
        go_wp2_with fail
        go_roundw
        case rel => exact ⟨i + 1, by omega, by go_num, hX7⟩
        case measure => simp [intOf] <;> omega
      · have hii : ¬ (i : Int) < (L : Int) := by omega
        have hX11 := hX10.trans hE
        go_wp2_with fail
        go_ret
        exact ⟨rfl, hX11⟩
end Go.Proofs.YtnmmglnadnfoiaaGreatDoor
/- what the rows' frames need: the listed variables, matrices opened -/
namespace Go.Proofs.YtnmmglnadnfoiaaGreatDoor
open Go.ChangeShapes Go.WideShapes Go.ChangeAt Go.WideMaps Go.WideElems Go.RowKit Go.Deep
theorem fr_own : ownKnob Tryz.prog.godebug = none := by kernel_rfl
theorem fr_laidOut : laidOutB Tryz.prog = true := by kernel_rfl
theorem fr_pow : Tryz.prog.globalNamed "internal/strconv.uint64pow10" = some 3 := by kernel_rfl
theorem fr_powT : (Tryz.prog.globals[3]?).map (·.type) = some 253 := by kernel_rfl
theorem fr_rng : Tryz.prog.globalNamed "strconv.ErrRange" = some 2 := by kernel_rfl
theorem fr_rngT : (Tryz.prog.globals[2]?).map (·.type) = some 174 := by kernel_rfl
theorem fr_c20 : Tryz.prog.cellsOf 253 = 20 := by kernel_rfl
theorem fr_cu : Tryz.prog.cellsOf 193 = 1 := by kernel_rfl
theorem fr_cE : Tryz.prog.cellsOf 258 = 1 := by kernel_rfl
theorem fr_cS : Tryz.prog.cellsOf 9 = 1 := by kernel_rfl
theorem fr_cR : Tryz.prog.cellsOf 30 = 1 := by kernel_rfl
theorem fr_cI : Tryz.prog.cellsOf 3 = 1 := by kernel_rfl
theorem fr_star : "*" ++ "errors.errorString" = "*errors.errorString" := by decide
theorem fr_ptr (u : TypeId) (h : Tryz.prog.typeName? 3 u = some "*errors.errorString") : u = 256 :=
  typeName_ptr_named (nm := "errors.errorString") (by rw [fr_star]; kernel_rfl) (by kernel_rfl) (by decide) u (by rw [fr_star]; exact h)
abbrev fr_list : List (String × DataW Unit) := [("math/bits.deBruijn32tab", Rows.laid_math_bits_deBruijn32tab), ("math/bits.deBruijn64tab", Rows.laid_math_bits_deBruijn64tab), ("internal/strconv.uint64pow10", Rows.laid_internal_strconv_uint64pow10), ("strconv.ErrRange", Rows.laid_strconv_ErrRange), ("strconv.ErrSyntax", Rows.laid_strconv_ErrSyntax)]
theorem fr_tab : (Rows.laid_internal_strconv_uint64pow10 : DataW Unit) = Lib.tabData .u64 Lib.pow10Tab := by kernel_rfl
theorem laid_of {W : World} (h : laidMetH Tryz.prog fr_list W) : Laid W := by
  rw [MakeChecks.laidMetH_plain _ _ _ (by kernel_rfl)] at h
  have h3 := h.tail.tail
  rw [fr_tab] at h3
  refine ⟨Lib.tabIs_of_head fr_pow fr_powT Tryz.underlying253 Tryz.underlying193 fr_cu fr_c20 h3, ?_⟩
  obtain ⟨a, s, hv, _⟩ := laid_sentinel h3.tail fr_rng fr_rngT Tryz.underlying174 fr_ptr Tryz.underlying256 Tryz.underlying258 rfl rfl Tryz.underlying9 fr_cE fr_cS
  exact ⟨_, _, hv⟩
/-- The door's own heap meets the condition. -/
theorem door_met (os : Os) (args : Array Value) : laidMetH Tryz.prog fr_list ((World.doorLaid Tryz.prog 400 os).forCall (fun _ _ => 0) ⟨#[], args, []⟩).memory :=
  laidMetH_of_parts3 (fuel := 8) (laidMet_of_run' 8 (by kernel_rfl) (by kernel_rfl)) (by kernel_rfl) (by kernel_rfl)
theorem row_open {W : World} {A : Option Addr} {L C : Nat} {Z : List Int} {base : Nat} (h1 : L ≤ C) (h2 : Z.length = C) (h3 : A = none → C = 0) (h4 : ∀ a', A = some a' → base ≤ a'.block ∧ ∀ c, c < C → W.cell? (a'.add c) = some (.int .i64 (Z.getD c 0))) : RowR W (.slice A L C) (Z.take L) := by
  have hl : (Z.take L).length = L := by rw [List.length_take]; omega
  cases A with
  | none =>
    have hC := h3 rfl
    refine ⟨none, 0, 0, C, by rw [hl], by rw [hl]; exact h1, fun h => ?_, fun i x hx => ?_⟩
    · rw [is_length, hl] at h; omega
    · have := (List.getElem?_eq_some_iff.1 hx).1
      rw [is_length, hl] at this; omega
  | some a =>
    obtain ⟨_, hc⟩ := h4 a rfl
    have hsp : 0 < L → a.spot = none := fun h => by simpa [Addr.add] using World.cell?_spot (hc 0 (by omega))
    obtain ⟨b, o, sp⟩ := a
    refine ⟨some ⟨b, o, sp⟩, b, o, C, by rw [hl], by rw [hl]; exact h1, fun h => ?_, fun i x hx => ?_⟩
    · rw [is_length, hl] at h
      have := hsp h
      simp at this
      rw [this]
    · have hi := (List.getElem?_eq_some_iff.1 hx).1
      rw [is_length, hl] at hi
      have := hsp (by omega)
      simp at this
      subst this
      rw [is_get (by rw [hl]; exact hi)] at hx
      have e := Option.some.inj hx
      rw [← e, ← add_plain, hc i (by omega), List.getElem_take, getD_get (by omega)]
theorem mat_open {H : Type} {enc : TypeId × Value → H} {W : World} {base : Nat} {held : Bool} {fuel : Nat} {v : Value} {x : DataW H × List MemPlace} (hv : v.cells.toList = [v])
    (h : DataW.trod enc Tryz.prog W base (fun _ => true) held fuel 49 v.cells.toList = some x) : ∃ M, MatR W v M := by
  rw [hv] at h
  rcases open_int_rows Tryz.underlying49 Tryz.underlying30 Tryz.underlying3 fr_cR fr_cI h with ⟨hcs, _⟩ | ⟨a, len, cap, A, L, C, Z, hcs, _, hl, _, _, hrows⟩
  · obtain rfl : v = .slice none 0 0 := by simpa using hcs
    exact ⟨[], none, 0, 0, 0, [], rfl, Nat.le_refl _, rfl, Sl.nil _ _ _ _, fun i h => by simp at h⟩
  · obtain rfl : v = .slice (some a) len cap := by simpa using hcs
    have hsp : 0 < len → a.spot = none := fun h => by simpa [Addr.add] using World.cell?_spot (hrows 0 (by omega)).1
    obtain ⟨b, o, sp⟩ := a
    refine ⟨(List.range len).map fun r => (Z r).take (L r), some ⟨b, o, sp⟩, b, o, cap, (List.range len).map fun r => .slice (A r) (L r) (C r), by simp, by simpa using hl, by simp, ⟨fun h => ?_, fun i y hy => ?_⟩, fun i hi hi' => ?_⟩
    · have := hsp (by simpa using h)
      simp at this
      rw [this]
    · have hi := (List.getElem?_eq_some_iff.1 hy).1
      have hil : i < len := by simpa using hi
      have := hsp (by omega)
      simp at this
      subst this
      have e : y = .slice (A i) (L i) (C i) := by
        rw [List.getElem?_eq_getElem hi] at hy
        have := Option.some.inj hy
        rw [← this]; simp
      rw [e, ← add_plain]
      exact (hrows i (by omega)).1
    · have hil : i < len := by simpa using hi
      obtain ⟨_, r1, _, r3, _, r5, r6⟩ := hrows i (by omega)
      have := row_open r1 r3 r5 r6
      simpa using this
end Go.Proofs.YtnmmglnadnfoiaaGreatDoor
/- numbers of 8 bits among arguments -/
namespace Go.Proofs.YtnmmglnadnfoiaaGreatDoor
open Go.ChangeShapes Go.WideShapes Go.ChangeAt Go.WideMaps Go.WideElems Go.RowKit Go.Deep
theorem fr_c8 : Tryz.prog.cellsOf 22 = 1 := by kernel_rfl
theorem fr_cu8 : Tryz.prog.cellsOf 5 = 1 := by kernel_rfl
theorem take_one {l : List Value} {k : Nat} {x : Value} (h : (l.drop k).take 1 = [x]) : l[k]? = some x := by
  have := congrArg (·[0]?) h
  simpa [List.getElem?_take] using this
theorem i8_bounds {n : Int} (h : (Lit.int .i8 n).wf = true) : -128 ≤ n ∧ n ≤ 127 := by
  simp only [Lit.wf, Bool.and_eq_true, decide_eq_true_eq] at h
  have e1 : IntKind.i8.min = -128 := by rfl
  have e2 : IntKind.i8.max = 127 := by rfl
  omega
theorem u8_bounds {n : Int} (h : (Lit.int .u8 n).wf = true) : 0 ≤ n ∧ n ≤ 255 := by
  simp only [Lit.wf, Bool.and_eq_true, decide_eq_true_eq] at h
  have e1 : IntKind.u8.min = 0 := by rfl
  have e2 : IntKind.u8.max = 255 := by rfl
  omega
theorem i8_cells {H : Type} {enc : TypeId × Value → H} {W : World} {base : Nat} {sp : Nat → Bool} {held : Bool} {fuel n : Nat} {t : TypeId} {l : List Value} {x : DataW H × List MemPlace} (ht : Tryz.prog.underlying t = some (.array n 22))
    (h : DataW.trod enc Tryz.prog W base sp held fuel t l = some x) : ∀ j, j < n → ∃ z : Int, l[j]? = some (.int .i8 z) ∧ -128 ≤ z ∧ z ≤ 127 := by
  obtain ⟨xs, m, _, _, _, hxl, hx⟩ := DataW.trod_array ht h
  intro j hj
  have h1 := hx j hj
  rw [fr_c8, Nat.mul_one, List.getElem?_eq_getElem (by omega)] at h1
  obtain ⟨z, hz, _, hw⟩ := DataW.trod_int Tryz.underlying22 h1
  exact ⟨z, take_one hz, i8_bounds hw⟩
end Go.Proofs.YtnmmglnadnfoiaaGreatDoor
/- plans of layouts among arguments -/
namespace Go.Proofs.YtnmmglnadnfoiaaGreatDoor
open Go.ChangeShapes Go.WideShapes Go.ChangeAt Go.WideMaps Go.WideElems Go.RowKit Go.Deep
theorem fr_cPl : Tryz.prog.cellsOf 25 = 11 := by kernel_rfl
theorem list11 {l : List Value} {a b c d e f g h i j k : Value} (hl : l.length = 11) (h0 : l[0]? = some a) (h1 : l[1]? = some b) (h2 : l[2]? = some c) (h3 : l[3]? = some d) (h4 : l[4]? = some e) (h5 : l[5]? = some f) (h6 : l[6]? = some g) (h7 : l[7]? = some h) (h8 : l[8]? = some i) (h9 : l[9]? = some j) (h10 : l[10]? = some k) : l = [a, b, c, d, e, f, g, h, i, j, k] := by
  refine List.ext_getElem? fun n => ?_
  match n with
  | 0 => exact h0
  | 1 => exact h1
  | 2 => exact h2
  | 3 => exact h3
  | 4 => exact h4
  | 5 => exact h5
  | 6 => exact h6
  | 7 => exact h7
  | 8 => exact h8
  | 9 => exact h9
  | 10 => exact h10
  | n + 11 => rw [List.getElem?_eq_none (by omega), List.getElem?_eq_none (by simp)]
set_option maxRecDepth 100000 in
theorem plan_open {H : Type} {enc : TypeId × Value → H} {W : World} {base : Nat} {sp : Nat → Bool} {held : Bool} {fuel : Nat} {cs : Array Value} {x : DataW H × List MemPlace} (hs : cs.size = 11)
    (h : DataW.trod enc Tryz.prog W base sp held fuel 25 cs.toList = some x) : ∃ P : Pl, .agg cs = P.v ∧ P.ok := by
  obtain ⟨xs, n, _, _, _, hxl, hx⟩ := DataW.trod_struct Tryz.underlying25 h
  have hx3 : xs.length = 5 := hxl
  have h0 := hx 0 _ rfl
  have h1 := hx 1 _ rfl
  have h2 := hx 2 _ rfl
  have h3 := hx 3 _ rfl
  have h4 := hx 4 _ rfl
  rw [List.getElem?_eq_getElem (by omega)] at h0 h1 h2 h3 h4
  have h0' : DataW.trod enc Tryz.prog W base sp held n 4 ((cs.toList.drop 0).take 1) = some xs[0] := h0
  have h1' : DataW.trod enc Tryz.prog W base sp held n 5 ((cs.toList.drop 1).take 1) = some xs[1] := h1
  have h2' : DataW.trod enc Tryz.prog W base sp held n 23 ((cs.toList.drop 2).take 3) = some xs[2] := h2
  have h3' : DataW.trod enc Tryz.prog W base sp held n 23 ((cs.toList.drop 5).take 3) = some xs[3] := h3
  have h4' : DataW.trod enc Tryz.prog W base sp held n 23 ((cs.toList.drop 8).take 3) = some xs[4] := h4
  obtain ⟨b, hb, _⟩ := DataW.trod_bool Tryz.underlying4 h0'
  obtain ⟨m, hm, _, wm⟩ := DataW.trod_int Tryz.underlying5 h1'
  have e2 := i8_cells Tryz.underlying23 h2'
  have e3 := i8_cells Tryz.underlying23 h3'
  have e4 := i8_cells Tryz.underlying23 h4'
  have bm := u8_bounds wm
  obtain ⟨z2, k2, b2⟩ := e2 0 (by omega)
  obtain ⟨z3, k3, b3⟩ := e2 1 (by omega)
  obtain ⟨z4, k4, b4⟩ := e2 2 (by omega)
  obtain ⟨z5, k5, b5⟩ := e3 0 (by omega)
  obtain ⟨z6, k6, b6⟩ := e3 1 (by omega)
  obtain ⟨z7, k7, b7⟩ := e3 2 (by omega)
  obtain ⟨z8, k8, b8⟩ := e4 0 (by omega)
  obtain ⟨z9, k9, b9⟩ := e4 1 (by omega)
  obtain ⟨z10, k10, b10⟩ := e4 2 (by omega)
  rw [List.getElem?_take, if_pos (by omega), List.getElem?_drop] at k2 k3 k4 k5 k6 k7 k8 k9 k10
  refine ⟨⟨b, m, z2, z3, z4, z5, z6, z7, z8, z9, z10⟩, ?_, ⟨bm, b2, b3, b4, b5, b6, b7, b8, b9, b10⟩⟩
  have hl : cs.toList.length = 11 := by simpa using hs
  have := list11 hl (take_one hb) (take_one hm) k2 k3 k4 k5 k6 k7 k8 k9 k10
  show Value.agg cs = _
  rw [show cs = cs.toList.toArray from Array.toArray_toList.symm, this]
end Go.Proofs.YtnmmglnadnfoiaaGreatDoor
/- keys among arguments -/
namespace Go.Proofs.YtnmmglnadnfoiaaGreatDoor
open Go.ChangeShapes Go.WideShapes Go.ChangeAt Go.WideMaps Go.WideElems Go.RowKit Go.Deep
theorem fr_cK : Tryz.prog.cellsOf 27 = 2 := by kernel_rfl
theorem i64_bounds {n : Int} (h : (Lit.int .i64 n).wf = true) : I64 n := by
  simp only [Lit.wf, Bool.and_eq_true, decide_eq_true_eq] at h
  have e1 : IntKind.i64.min = -9223372036854775808 := by rfl
  have e2 : IntKind.i64.max = 9223372036854775807 := by rfl
  unfold I64
  omega
set_option maxRecDepth 100000 in
theorem key_open {H : Type} {enc : TypeId × Value → H} {W : World} {base : Nat} {sp : Nat → Bool} {held : Bool} {fuel : Nat} {cs : Array Value} {x : DataW H × List MemPlace} (hs : cs.size = 2)
    (h : DataW.trod enc Tryz.prog W base sp held fuel 27 cs.toList = some x) : ∃ a b, cs = #[.int .i64 a, .int .i64 b] ∧ I64 a ∧ I64 b := by
  obtain ⟨xs, n, _, _, _, hxl, hx⟩ := DataW.trod_struct Tryz.underlying27 h
  have hx3 : xs.length = 2 := hxl
  have h0 := hx 0 _ rfl
  have h1 := hx 1 _ rfl
  rw [List.getElem?_eq_getElem (by omega)] at h0 h1
  have h0' : DataW.trod enc Tryz.prog W base sp held n 3 ((cs.toList.drop 0).take 1) = some xs[0] := h0
  have h1' : DataW.trod enc Tryz.prog W base sp held n 3 ((cs.toList.drop 1).take 1) = some xs[1] := h1
  obtain ⟨r, hr, _, wr⟩ := DataW.trod_int Tryz.underlying3 h0'
  obtain ⟨c, hc, _, wc⟩ := DataW.trod_int Tryz.underlying3 h1'
  obtain ⟨l⟩ := cs
  match l, hs with
  | [a, b], _ =>
    simp at hr hc
    subst hr hc
    exact ⟨r, c, rfl, i64_bounds wr, i64_bounds wc⟩
end Go.Proofs.YtnmmglnadnfoiaaGreatDoor
