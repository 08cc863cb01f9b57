/- Part 29 of the proof of the claim: contracts of the functions that it reaches, and plain laws; no condition. -/
import Derived.Test.YtnmmglnadnfoiaaGreatDoorV28
import Derived.Test.YtnmmglnadnfoiaaGreatDoorV26
import Derived.Deep.CutRange
import Derived.BigQuiet
import Derived.Test.YtnmmglnadnfoiaaGreatDoorV05
import Derived.Test.YtnmmglnadnfoiaaGreatDoorV25
/- schismalaw44: LayoutMoves of right rows. -/
namespace Go.Proofs.YtnmmglnadnfoiaaGreatDoor
open Go.RowKit Go.Sort
def lsTo (n i : Nat) (x o : List Int) : List Int := (subR x o).take i ++ List.replicate (n - i) 0
theorem lsTo_length {n i : Nat} {x o : List Int} (hx : x.length = n) (ho : o.length = n) (hi : i ≤ n) : (lsTo n i x o).length = n := by
  unfold lsTo
  rw [List.length_append, List.length_take, List.length_replicate, subR_length hx ho]; omega
theorem subR_get {n i : Nat} {x o : List Int} (hx : x.length = n) (ho : o.length = n) (hi : i < n) : (subR x o).getD i 0 = x.getD i 0 - o.getD i 0 := by
  rw [getD_get (by rw [subR_length hx ho]; exact hi), getD_get (by omega), getD_get (by omega)]
  simp [subR]
theorem lsTo_step {n i : Nat} {x o : List Int} (hx : x.length = n) (ho : o.length = n) (hi : i < n) : lsTo n (i + 1) x o = (lsTo n i x o).set i (x.getD i 0 - o.getD i 0) := by
  have hl := subR_length hx ho
  refine List.ext_getElem (by rw [List.length_set, lsTo_length hx ho (by omega), lsTo_length hx ho (by omega)]) fun t h1 h2 => ?_
  have ht : t < n := by rwa [lsTo_length hx ho (by omega)] at h1
  have e : ∀ j, j ≤ n → ∀ h : t < (lsTo n j x o).length, (lsTo n j x o)[t] = if t < j then (subR x o).getD t 0 else 0 := fun j hj h => by
    have htl : ((subR x o).take j).length = j := by rw [List.length_take]; omega
    by_cases htj : t < j
    · simp only [lsTo, if_pos htj]
      rw [List.getElem_append_left (by omega), List.getElem_take, getD_get (by omega)]
    · simp only [lsTo, if_neg htj]
      rw [List.getElem_append_right (by omega)]
      simp
  rw [e (i + 1) (by omega), List.getElem_set]
  by_cases hti : i = t
  · subst hti
    rw [if_pos (by omega), if_pos rfl, subR_get hx ho ht]
  · rw [if_neg hti, e i (by omega)]
    by_cases h3 : t < i
    · rw [if_pos (by omega), if_pos h3]
    · rw [if_neg (by omega), if_neg h3]
theorem lsTo_all {n : Nat} {x o : List Int} (hx : x.length = n) (ho : o.length = n) : lsTo n n x o = subR x o := by
  unfold lsTo
  rw [List.take_of_length_le (by rw [subR_length hx ho]; omega), Nat.sub_self, List.replicate_zero, List.append_nil]
theorem own_rowx {B : Nat} {w : World} {g n : Nat} {x : List Int} (h : OwnV 3 B w g n (is x)) (hl : x.length = n) : RowR w (slv g n n) x := ⟨_, g, 0, n, by rw [hl], by omega, h.sl⟩
theorem at_of {n : Nat} {x o r u : List Int} {a b : Int} (lx : x.length = n) (lo : o.length = n) (lr : r.length = n) (lu : u.length = n) (h : ∀ j, j < n → a * vr r j + b * vr u j = vr (subR x o) j) : atL a b o r u = x := by
  have hl : (atL a b o r u).length = n := by rw [atL_length _ _ _ _ _ (by omega) (by omega)]; exact lo
  refine sam_getD_ext (by omega) fun j hj => ?_
  have hj' : j < n := by omega
  rw [atL_get _ _ _ _ _ _ (by omega) (by omega) (by omega)]
  have h1 := h j hj'
  unfold vr at h1
  rw [subR_get lx lo hj'] at h1
  omega
set_option maxRecDepth 100000 in
set_option maxHeartbeats 4000000 in
theorem lm_ok {w : World} {P : Pl} {x : List Int} {vx : Value} (hP : P.ok) (hx : RowR w vx x) (hL : Laid w) (h8 : x.length ≤ 8) (hz : rowE P.n x = 0) :
    Calls Tryz.prog 10 #[P.v, vx] w fun e w' => e = .returned (.bool true) ∧ Ext w w' := by
  obtain ⟨hlx, hex⟩ := rowE_zero hz
  obtain ⟨i0, hi, hz0, hz1, hz2⟩ := info_parts Tryz.infoInt
  have hn3 := P.n3
  have hkn := Lib.hid (fun W (hW : Ext w W) => known44_any (hL.ext hW))
  have hmk := Lib.hid (fun W => make44 (w := W) hP)
  have hrc := Lib.hid (fun W (hW : Ext w W) => rowCheck_any (hx.ext hW))
  have HRx := Lib.hid (fun W (hW : Ext w W) => hx.ext hW)
  rw [hex] at hrc
  obtain ⟨sx, gx, ox, cx, rfl, hcx, hSx⟩ := hx
  rw [hlx] at hcx HRx hrc h8 ⊢
  have HSx := Lib.hid hSx
  have hfa := Lib.hid (fun W g1 g2 g3 (h : PlP W P g1 g2 g3) (hW : Ext w W) => First_any h (HRx.out W hW) hlx hex hn3 (hL.ext hW))
  have hma := Lib.hid (fun W g1 g2 g3 (h : PlP W P g1 g2 g3) (hW : Ext w W) => Move_any h (HRx.out W hW) hlx hex hn3 (hL.ext hW))
  have hso := Lib.hid (fun W g1 g2 g3 b vq q (h : PlP W P g1 g2 g3) (hW : Ext w W) (h0 : W.cell? ⟨b, 0, none⟩ = some (slv g2 P.n P.n)) (h1 : W.cell? ⟨b, 1, none⟩ = some (slv g3 P.n P.n)) (hq : RowR W vq q) (lq : q.length = P.n) (eq : chkRow q = 0) =>
    Solve_any (c := P.n) (two_rows h.pr h.pu P.lr P.lu h0 h1) hq (size_two (by omega) P.lr P.lu lq P.er P.eu eq) (by simp) P.lr.symm rfl (lim2 hn3 rfl) (hL.ext hW))
  have hno := Lib.hid (fun W g1 g2 g3 (a b : Int) (h : PlP W P g1 g2 g3) (ha : -1000000000 ≤ a ∧ a ≤ 1000000000) (hb : -1000000000 ≤ b ∧ b ≤ 1000000000) => note44_big h ha hb)
  have Hlx := Lib.hid hlx
  have Hex := Lib.hid hex
  have hX : Ext w (w.alloc (.cells #[.bool P.hx, .int .u8 P.m, .int .i8 P.a, .int .i8 P.b, .int .i8 P.c, .int .i8 P.d, .int .i8 P.e, .int .i8 P.f, .int .i8 P.p, .int .i8 P.q, .int .i8 P.s] 25)) := (Ext.refl w).alloc _
  have hpc := plC_new w P
  obtain ⟨bp, hbp⟩ : ∃ bp, bp = w.heap.size := ⟨_, rfl⟩
  rw [← hbp] at hpc
  have h9 : ¬ (P.n : Int) > 8 := by omega
  clear hSx hL hP hz hlx hex
  go_enter Tryz.func10, Tryz.ntmps10
  go_wp2_with fail
  refine (hkn.out _ hX).mono ?_
  rintro e w1 ⟨rfl, hE1⟩
  have hX1 := hX.trans hE1
  obtain ⟨k0, k1, k2, k3, k4, k5, k6, k7, k8, k9, k10⟩ := hpc.ext hE1
  rw [← hbp]
  clear hE1 hX hpc hbp hkn
  go_wp2_with fail
  refine (hmk.out _).mono ?_
  rintro e w2 ⟨g1, g2, g3, rfl, hP2, hE2⟩
  have hX2 := hX1.trans hE2
  have HP2 := Lib.hid hP2
  have hb := layC_new w2 P.k P.n g1 P.n g2 P.n g3 P.n
  obtain ⟨bl, hbl⟩ : ∃ bl, bl = w2.heap.size := ⟨_, rfl⟩
  rw [← hbl] at hb
  have hX3 := hX2.alloc (.cells #[.int .i64 P.k, slv g1 P.n P.n, slv g2 P.n P.n, slv g3 P.n P.n] 32)
  have HP3 := Lib.hid (HP2.out.ext ((Ext.refl w2).alloc (.cells #[.int .i64 P.k, slv g1 P.n P.n, slv g2 P.n P.n, slv g3 P.n P.n] 32)))
  have hf3 := Lib.hid (hfa.out _ g1 g2 g3 HP3.out hX3)
  clear k0 k1 k2 k3 k4 k5 k6 k7 k8 k9 k10 hE2 hP2 hX1 hX2 hmk hfa HP2
  go_wp2_with fail
  refine hf3.out.mono ?_
  rintro e w4 ⟨a, b, f, z, rfl, hR1, hE4⟩
  have HR1 := Lib.hid hR1
  have hX4 := hX3.trans hE4
  have HP4 := Lib.hid (HP3.out.ext hE4)
  have hb4 := hb.ext hE4
  obtain ⟨bk, hbk⟩ : ∃ bk, bk = w4.heap.size := ⟨_, rfl⟩
  have hE5 := (Ext.refl w4).alloc (.cells #[.int .i64 a, .int .i64 b] 27)
  have c0 : (w4.alloc (.cells #[.int .i64 a, .int .i64 b] 27)).cell? ⟨bk, 0, none⟩ = some (.int .i64 a) := by rw [hbk]; go_simp
  have c1 : (w4.alloc (.cells #[.int .i64 a, .int .i64 b] 27)).cell? ⟨bk, 1, none⟩ = some (.int .i64 b) := by rw [hbk]; go_simp
  have HP5 := Lib.hid (HP4.out.ext hE5)
  have hm4 := Lib.hid (hma.out _ g1 g2 g3 HP5.out (hX4.trans hE5))
  have hb5 := hb4.ext hE5
  obtain ⟨l0, l1, l2, l3⟩ := hb4
  have dl := World.block_lt_of_cell? _ _ l0
  have hX5 := hX4.trans hE5
  rw [← hbl]
  clear hf3 hb hX3 hX4 hE4 HP3 HP4 hma hbl hE5 hR1
  go_wp2_with fail
  rw [← hbk]
  refine hm4.out.mono ?_
  rintro e w5 hp
  obtain ⟨a2, b2, f2, z2, rfl, hR2, hE6⟩ := hp.res Hlx.out
  have HR2 := Lib.hid hR2
  have dk := World.block_lt_of_cell? _ _ (hE6.cell c0)
  obtain ⟨bw, hbw⟩ : ∃ bw, bw = w5.heap.size := ⟨_, rfl⟩
  have hE7 := hE6.alloc (.cells #[.int .i64 a2, .int .i64 b2] 27)
  replace c0 := hE7.cell c0
  replace c1 := hE7.cell c1
  have hb6 := hb5.ext hE7
  have hX6 := hX5.trans hE7
  have HP6 := Lib.hid (HP5.out.ext hE7)
  have d0 : (w5.alloc (.cells #[.int .i64 a2, .int .i64 b2] 27)).cell? ⟨bw, 0, none⟩ = some (.int .i64 a2) := by rw [hbw]; go_simp
  have d1 : (w5.alloc (.cells #[.int .i64 a2, .int .i64 b2] 27)).cell? ⟨bw, 1, none⟩ = some (.int .i64 b2) := by rw [hbw]; go_simp
  have hc := Lib.hid (hrc.out _ hX6)
  clear hm4 hb5 hX5 hE6 hE7 hbk l0 l1 l2 l3 dl dk hR2 hp HP5
  go_wp2_with fail
  rw [← hbw]
  refine hc.out.mono ?_
  rintro e w6 ⟨rfl, hE8⟩
  replace c0 := hE8.cell c0
  replace c1 := hE8.cell c1
  replace d0 := hE8.cell d0
  replace d1 := hE8.cell d1
  obtain ⟨l0, l1, l2, l3⟩ := hb6.ext hE8
  have dl := World.block_lt_of_cell? _ _ l0
  have dk := World.block_lt_of_cell? _ _ c0
  have dw := World.block_lt_of_cell? _ _ d0
  have hX7 := hX6.trans hE8
  have HP7 := Lib.hid (HP6.out.ext hE8)
  have hb7 := hb6.ext hE8
  have hE9 := (Ext.refl w6).alloc (.cells #[slv g2 P.n P.n, slv g3 P.n P.n] 30)
  obtain ⟨bm, hbm⟩ : ∃ bm, bm = w6.heap.size := ⟨_, rfl⟩
  have m0 : (w6.alloc (.cells #[slv g2 P.n P.n, slv g3 P.n P.n] 30)).cell? ⟨bm, 0, none⟩ = some (slv g2 P.n P.n) := by rw [hbm]; go_simp
  have m1 : (w6.alloc (.cells #[slv g2 P.n P.n, slv g3 P.n P.n] 30)).cell? ⟨bm, 1, none⟩ = some (slv g3 P.n P.n) := by rw [hbm]; go_simp
  have hX8 := hX7.trans hE9
  have HP8 := Lib.hid (HP7.out.ext hE9)
  have hs := Lib.hid (hso.out _ g1 g2 g3 bm _ x HP8.out hX8 m0 m1 (HRx.out _ hX8) Hlx.out Hex.out)
  clear hc hb6 hE8 hX6 hbw HP6 HP7
  go_wp2_with fail
  rw [← hbm]
  refine hs.out.mono ?_
  rintro e w7 hp
  obtain ⟨a3, b3, f3, z3, v3, rfl, hR3, hV3, hE10⟩ := hp.res Hlx.out
  obtain ⟨rfl, rfl, rfl, rfl⟩ := HR2.out.uniq hR3
  replace c0 := hE10.cell (hE9.cell c0)
  replace c1 := hE10.cell (hE9.cell c1)
  replace d0 := hE10.cell (hE9.cell d0)
  replace d1 := hE10.cell (hE9.cell d1)
  replace m0 := hE10.cell m0
  replace m1 := hE10.cell m1
  have hb8 := Lib.hid ((hb7.ext hE9).ext hE10)
  have hX9 := hX8.trans hE10
  have HP9 := Lib.hid (HP8.out.ext hE10)
  clear hs hp hR3 hbm hE9 hE10 hX8 hX7 HP8 l0 l1 l2 l3 hb7 dl dk dw
  go_upto_region 13 with fail
  go_cut [132] from 97 to 132 (fun lv wx => lv = .bool false ∧ ∃ k, wx = w7.drewN k)
  case first =>
    have g1 : (z2 == z2) = true := by simp
    have g2 : (z2 != z2) = false := by simp [bne]
    rcases hV3 with ⟨rfl, hv⟩ | ⟨rfl, rfl⟩
    · rcases hv.2 with ⟨_, h0'⟩ | ⟨g9, c9, cur9, rfl, hB9, _, hc9, _⟩
      · simp at h0'
      · have p0 : w7.cell? ⟨g9, 0, none⟩ = some (.int .i64 a2) := by simpa [is] using World.ownsRow.cellAt hv 0 (by simp)
        have p1 : w7.cell? ⟨g9, 1, none⟩ = some (.int .i64 b2) := by simpa [is] using World.ownsRow.cellAt hv 1 (by simp)
        clear hv hB9 hc9
        simp only [List.length_cons, List.length_nil, Nat.zero_add, Nat.reduceAdd]
        refine wp_region_quiet_lit (by kernel_rfl) (by kernel_rfl) ?_
        repeat (go_big_quiet_step (fail))
        refine wpQuiet_nil ?_
        intro w' hw'
        go_wp2_with fail
        go_meet
        exact ⟨rfl, hw'⟩
    · obtain ⟨rfl, rfl⟩ := HR2.out.nil
      refine wp_region_quiet_lit (by kernel_rfl) (by kernel_rfl) ?_
      repeat (go_big_quiet_step (fail))
      refine wpQuiet_nil ?_
      intro w' hw'
      go_wp2_with fail
      go_meet
      exact ⟨rfl, hw'⟩
  case rest =>
    obtain ⟨rfl, kk, rfl⟩ := hcut
    have hE11 := (Ext.refl w7).drewN kk
    replace c0 := hE11.cell c0
    replace c1 := hE11.cell c1
    replace m0 := hE11.cell m0
    replace m1 := hE11.cell m1
    have hb9 := Lib.hid (hb8.out.ext hE11)
    have hX10 := hX9.trans hE11
    have HP10 := Lib.hid (HP9.out.ext hE11)
    clear hV3 d0 d1 HR2 hb8 hX9 HP9 hE11
    generalize w7.drewN kk = w8 at *
    go_wp2_with (at_make; refine wpList_make_full _ rfl _ _ 30 rfl w8.heap.size 3 i0 (.int .i64 0) 1 Tryz.underlying30 hi hz0 hz1 .i64 .i64 _ _ P.n rfl rfl (by omega) (by omega) (by rw [hz2]; omega) (by unfold maxLen; omega) (by simp <;> omega) ?_; intro w9 hown9 hgrow9; have hE12 := ext_grown hgrow9)
    have hbL : OwnV 3 w8.heap.size w9 w8.heap.size P.n (is (List.replicate P.n 0)) := row_ownV (zero_row hown9) (by simp)
    have HOL := Lib.hid hbL
    obtain ⟨gL, hgL⟩ : ∃ gL, gL = w8.heap.size := ⟨_, rfl⟩
    rw [← hgL] at HOL ⊢
    have H12 := Lib.hid hE12
    have Hlo := Lib.hid P.lo
    have Hbx := Lib.hid (chkRow_ok Hex.out).2
    have Hbo := Lib.hid (fun z hz => plTo_small (n := P.n) (l := [P.a, P.b, P.c]) z hz)
    have HGL := Lib.hid hgL
    clear hbL hE12 hown9 hgrow9 hgL
    go_loopw [18] (fun idx wr => ∃ i : Nat, i ≤ P.n ∧ idx = .int .i64 i ∧ Hid (OwnV 3 gL wr gL P.n (is (lsTo P.n i x P.o))) ∧ Hid (w9.grownBy wr (some gL))) (fun idx _ => P.n - (intOf idx).toNat)
    case atStart => exact ⟨0, by omega, by go_num, Lib.hid (by unfold lsTo; simpa using HOL.out), Lib.hid (World.grownBy.refl _ _)⟩
    case round =>
      obtain ⟨i, hi', rfl, hO, hG⟩ := hrel
      generalize wr = X at *
      have hEX := ext_trans_grown H12.out hG.out (by rw [HGL.out]; exact Nat.le_refl _)
      have hX11 := hX10.trans hEX
      by_cases hlt : i < P.n
      · have hii : (i : Int) < (P.n : Int) := by omega
        have l1 := hEX.cell hb9.out.c1
        have hlen := lsTo_length (i := i) Hlx.out Hlo.out (by omega)
        have q1 := hO.out.cell (j := i) (by rw [is_length, hlen]; exact hlt)
        obtain ⟨old, hcl⟩ : ∃ old, X.cell? ⟨gL, i, none⟩ = some old := ⟨_, q1⟩
        clear q1
        obtain ⟨xa, hxa⟩ : ∃ xa, xa = x.getD i 0 := ⟨_, rfl⟩
        obtain ⟨oa, hoa⟩ : ∃ oa, oa = P.o.getD i 0 := ⟨_, rfl⟩
        obtain rfl := HSx.out.addr (by rw [is_length, Hlx.out]; omega)
        have q2 := (HSx.out.ext hX11).cell i (.int .i64 xa) (by rw [hxa, getD_get (by rw [Hlx.out]; exact hlt)]; exact is_get (by rw [Hlx.out]; exact hlt))
        have q3 := (HP10.out.ext hEX).po.2.cell i (.int .i64 oa) (by rw [hoa, getD_get (by rw [Hlo.out]; exact hlt)]; exact is_get (by rw [Hlo.out]; exact hlt))
        rw [Nat.zero_add] at q3
        have ba : -1000000000 ≤ xa ∧ xa ≤ 1000000000 := by rw [hxa, getD_get (by rw [Hlx.out]; exact hlt)]; exact Hbx.out _ (List.getElem_mem _)
        have bb : -9 ≤ oa ∧ oa ≤ 9 := by rw [hoa, getD_get (by rw [Hlo.out]; exact hlt)]; exact Hbo.out _ (List.getElem_mem _)
        have w1' : IntKind.i64.wrap (xa - oa) = xa - oa := IntWalk.i64_in _ (by omega)
        have Hst := Lib.hid (lsTo_step (i := i) Hlx.out Hlo.out hlt)
        rw [← hxa, ← hoa] at Hst
        have k1 := cell_regrown l1
        have k2 := cell_regrown hcl
        have k3 := cell_regrown q2
        have k4 := cell_regrown q3
        have j0 := hcl
        clear hxa hoa ba bb hlen
        go_wp2_with fail
        refine wp_region_quiet_tail 13 (by kernel_rfl) (by kernel_rfl) ?_
        simp only [List.take_succ_cons, List.take_zero, List.drop_succ_cons, List.drop_zero]
        repeat (go_big_quiet_step (fail))
        refine wpQuiet_nil ?_
        intro _ hw'
        obtain ⟨⟨dq, osq⟩, hw''⟩ := hw'
        subst hw''
        have hE5 := ext_regrown X dq osq
        have j5 := hE5.cell j0
        clear k1 k2 k3 k4
        generalize grow (redrawn X dq) osq = w5 at *
        have f5 := (hO.out.ext hE5).frozen i
        obtain ⟨hO6, hG6⟩ := (hO.out.ext hE5).set i (.int .i64 (xa - oa))
        rw [← is_set, ← Hst.out] at hO6
        have HO6 := Lib.hid hO6
        have HG6 := Lib.hid (grown_trans hG.out (grown_trans (grown_ext hE5 (some gL)) hG6))
        clear hO6 hG6 hE5
        go_wp2_with fail
        go_roundw
        case rel => exact ⟨i + 1, by omega, by go_num, HO6, HG6⟩
        case measure => simp [intOf] <;> omega
      · have hii : ¬ (i : Int) < (P.n : Int) := by omega
        have hin : i = P.n := by omega
        rw [hin, lsTo_all Hlx.out Hlo.out] at hO
        have HO := Lib.hid hO.out
        have hld := subR_length Hlx.out Hlo.out
        have Hld := Lib.hid hld
        have hRd : RowR X (slv gL P.n P.n) (subR x P.o) := ⟨_, gL, 0, P.n, by rw [hld], by rw [hld]; exact Nat.le_refl _, HO.out.sl⟩
        have HRd := Lib.hid hRd
        have hck := Lib.hid (rowCheck_any hRd)
        replace c0 := hEX.cell c0
        replace c1 := hEX.cell c1
        replace m0 := hEX.cell m0
        replace m1 := hEX.cell m1
        have hb11 := hb9.out.ext hEX
        have HP11 := Lib.hid (HP10.out.ext hEX)
        clear hRd hld HOL H12 hX10 HP10 hb9 hEX HGL HO hG hO
        by_cases hcd : chkRow (subR x P.o) = 0
        · have hR1 := HR1.out
          rw [if_pos hcd] at hR1
          have HR1' := Lib.hid hR1
          rw [hcd] at hck
          have Hcd := Lib.hid hcd
          clear hR1 HR1 hcd
          go_wp2_with fail
          refine hck.out.mono ?_
          rintro e w10 ⟨rfl, hE13⟩
          replace c0 := hE13.cell c0
          replace c1 := hE13.cell c1
          replace m0 := hE13.cell m0
          replace m1 := hE13.cell m1
          have hX13 := hX11.trans hE13
          have hb13 := hb11.ext hE13
          have HP13 := Lib.hid (HP11.out.ext hE13)
          have hs2 := Lib.hid (hso.out w10 g1 g2 g3 bm _ (subR x P.o) HP13.out hX13 m0 m1 (HRd.out.ext hE13) Hld.out Hcd.out)
          clear hck hE13 HP11 hX11 hb11
          go_wp2_with fail
          refine hs2.out.mono ?_
          rintro e w11 hp
          obtain ⟨a3, b3, f3, z3, v4, rfl, hR3, hV4, hE14⟩ := hp.res Hld.out
          obtain ⟨rfl, rfl, rfl, rfl⟩ := HR1'.out.uniq hR3
          replace c0 := hE14.cell c0
          replace c1 := hE14.cell c1
          obtain ⟨l0, l1, l2, l3⟩ := hb13.ext hE14
          have hX14 := hX13.trans hE14
          have HP14 := Lib.hid (HP13.out.ext hE14)
          have g8 : (z != z) = false := by simp [bne]
          clear hs2 hp hR3 hE14 hX13 hb13 HP13 HRd m0 m1
          rcases hV4 with ⟨rfl, hv⟩ | ⟨rfl, rfl⟩
          · obtain ⟨rfl, ha, hb, hcm⟩ := HR1'.out.found P.lr P.lu Hld.out
            rcases hv.2 with ⟨_, h0'⟩ | ⟨g9, c9, cur9, rfl, hB9, _, hc9, _⟩
            · simp at h0'
            have p0 : w11.cell? ⟨g9, 0, none⟩ = some (.int .i64 a) := by simpa [is] using World.ownsRow.cellAt hv 0 (by simp)
            have p1 : w11.cell? ⟨g9, 1, none⟩ = some (.int .i64 b) := by simpa [is] using World.ownsRow.cellAt hv 1 (by simp)
            have HAx := Lib.hid (at_of Hlx.out P.lo P.lr P.lu hcm)
            have dl := World.block_lt_of_cell? _ _ l0
            have dk := World.block_lt_of_cell? _ _ c0
            clear hv hB9 hc9 hcm g8 HR1'
            simp only [List.length_cons, List.length_nil, Nat.zero_add, Nat.reduceAdd]
            go_upto_region 26 with fail
            go_cut [4] from 195 to 224 (fun rv wx => rv = .bool true ∧ Ext w11 wx)
            case first =>
              have d7 : Ext w11 w11.drew := (Ext.refl w11).drew
              refine wp_region_held_tail (S := fun W => Ext w11 W) 28 (by kernel_rfl) (by simp) ?_
              intro inv
              refine wpAnyLH_take (i := 0) (v := .bool true) rfl (by kernel_rfl) (fun _ _ _ h => h) (.inl ⟨by rfl, fun W hW => by go_simp⟩) d7 inv ?_
              intro inv
              go_simp
              refine wpAnyLH_take (i := 1) (v := .bool false) rfl (by kernel_rfl) (fun _ _ _ h => h) (.inl ⟨by rfl, fun W hW => by go_simp⟩) d7 inv ?_
              intro inv
              go_simp
              refine wpAnyLH_take (i := 2) (v := .bool false) rfl (by kernel_rfl) (fun _ _ _ h => h) (.inl ⟨by rfl, fun W hW => by go_simp⟩) d7 inv ?_
              intro inv
              go_simp
              refine wpAnyLH_take (i := 3) (v := slv g9 2 c9) rfl (by kernel_rfl) (fun _ _ _ h => h) (.inl ⟨by rfl, fun W hW => by go_simp⟩) d7 inv ?_
              intro inv
              go_simp
              refine wpAnyLH_take (i := 4) (v := .int .i64 2) rfl (by kernel_rfl) (fun _ _ _ h => h) (.inl ⟨by rfl, fun W hW => by go_simp⟩) d7 inv ?_
              intro inv
              go_simp
              refine wpAnyLH_take (i := 5) (v := .bool true) rfl (by kernel_rfl) (fun _ _ _ h => h) (.inl ⟨by rfl, fun W hW => by go_simp⟩) d7 inv ?_
              intro inv
              go_simp
              refine wpAnyLH_take (i := 6) (v := .bool true) rfl (by kernel_rfl) (fun _ _ _ h => h) (.inl ⟨by rfl, fun W hW => by go_simp⟩) d7 inv ?_
              intro inv
              go_simp
              refine wpAnyLH_take (i := 7) (v := .agg #[.int .i64 a, .int .i64 b]) rfl (by kernel_rfl) (fun _ _ _ h => h) (.inl ⟨by rfl, fun W hW => by have q0 := hW.cell c0; have q1 := hW.cell c1; go_simp⟩) d7 inv ?_
              intro inv
              go_simp
              refine wpAnyLH_take (i := 8) (v := slv g9 2 c9) rfl (by kernel_rfl) (fun _ _ _ h => h) (.inl ⟨by rfl, fun W hW => by go_simp⟩) d7 inv ?_
              intro inv
              go_simp
              refine wpAnyLH_take (i := 9) (v := .pointer (some ⟨g9, 0, none⟩)) rfl (by kernel_rfl) (fun _ _ _ h => h) (.inl ⟨by rfl, fun W hW => by go_simp⟩) d7 inv ?_
              intro inv
              go_simp
              refine wpAnyLH_take (i := 10) (v := .int .i64 a) rfl (by kernel_rfl) (fun _ _ _ h => h) (.inl ⟨by rfl, fun W hW => by have q0 := hW.cell p0; go_simp⟩) d7 inv ?_
              intro inv
              go_simp
              refine wpAnyLH_take (i := 11) (v := slv g9 2 c9) rfl (by kernel_rfl) (fun _ _ _ h => h) (.inl ⟨by rfl, fun W hW => by go_simp⟩) d7 inv ?_
              intro inv
              go_simp
              refine wpAnyLH_take (i := 12) (v := .pointer (some ⟨g9, 1, none⟩)) rfl (by kernel_rfl) (fun _ _ _ h => h) (.inl ⟨by rfl, fun W hW => by go_simp⟩) d7 inv ?_
              intro inv
              go_simp
              refine wpAnyLH_take (i := 13) (v := .int .i64 b) rfl (by kernel_rfl) (fun _ _ _ h => h) (.inl ⟨by rfl, fun W hW => by have q0 := hW.cell p1; go_simp⟩) d7 inv ?_
              intro inv
              go_simp
              refine wpAnyLH_take (i := 14) (v := .agg #[.int .i64 a, .int .i64 b]) rfl (by kernel_rfl) (fun _ _ _ h => h) (.inl ⟨by rfl, fun W hW => by go_simp⟩) d7 inv ?_
              intro inv
              go_simp
              refine wpAnyLH_take (i := 15) (v := .bool true) rfl (by kernel_rfl) (fun _ _ _ h => h) (.inl ⟨by rfl, fun W hW => by go_simp⟩) d7 inv ?_
              intro inv
              go_simp
              refine wpAnyLH_take (i := 16) (v := .bool true) rfl (by kernel_rfl) (fun _ _ _ h => h) (.inl ⟨by rfl, fun W hW => by go_simp⟩) d7 inv ?_
              intro inv
              go_simp
              refine wpAnyLH_take (i := 17) (v := .bool true) rfl (by kernel_rfl) (fun _ _ _ h => h) (.inl ⟨by rfl, fun W hW => by go_simp⟩) d7 inv ?_
              intro inv
              go_simp
              refine wpAnyLH_take (i := 18) (v := layv P.k P.n g1 P.n g2 P.n g3 P.n) rfl (by kernel_rfl) (fun _ _ _ h => h) (.inl ⟨by rfl, fun W hW => by have q0 := hW.cell l0; have q1 := hW.cell l1; have q2 := hW.cell l2; have q3 := hW.cell l3; go_simp⟩) d7 inv ?_
              intro inv
              go_simp
              refine wpAnyLH_take (i := 19) (v := .pointer (some ⟨bk, 0, none⟩)) rfl (by kernel_rfl) (fun _ _ _ h => h) (.inl ⟨by rfl, fun W hW => by go_simp⟩) d7 inv ?_
              intro inv
              go_simp
              refine wpAnyLH_take (i := 20) (v := .int .i64 a) rfl (by kernel_rfl) (fun _ _ _ h => h) (.inl ⟨by rfl, fun W hW => by have q0 := hW.cell c0; go_simp⟩) d7 inv ?_
              intro inv
              go_simp
              refine wpAnyLH_take (i := 21) (v := .pointer (some ⟨bk, 1, none⟩)) rfl (by kernel_rfl) (fun _ _ _ h => h) (.inl ⟨by rfl, fun W hW => by go_simp⟩) d7 inv ?_
              intro inv
              go_simp
              refine wpAnyLH_take (i := 22) (v := .int .i64 b) rfl (by kernel_rfl) (fun _ _ _ h => h) (.inl ⟨by rfl, fun W hW => by have q0 := hW.cell c1; go_simp⟩) d7 inv ?_
              intro inv
              go_simp
              refine wpAnyLH_take (i := 25) (v := .slice sx P.n cx) rfl (by kernel_rfl) (fun _ _ _ h => h) (.inl ⟨by rfl, fun W hW => by go_simp⟩) d7 inv ?_
              intro inv
              go_simp
              refine wpAnyLH_two (i := 23) (j := 24) rfl rfl (by kernel_rfl) (fun K23 hK23 => ?_) (fun K24 hK24 => ?_)
              case refine_1 =>
                go_simp
                refine (hno.out _ g1 g2 g3 a b (HP14.out.ext d7) ha hb).mono ?_
                rintro e WN ⟨gn, rfl, hON, hEN⟩
                have dN := d7.trans hEN
                rw [HAx.out] at hON
                have HON := Lib.hid hON
                clear hON
                refine hK23 _ _ dN ?_
                clear hK23
                refine wpAnyLH_one (i := 24) rfl (by kernel_rfl) (fun K24 hK24 => ?_)
                go_simp
                have HB0 := RowV.mono (row_lit0 (w := WN) (T := 3) rfl) dN.size
                have HB := Lib.hid HB0
                clear HB0
                have dB := dN.alloc (.cells #[] 3)
                have hne : gn ≠ WN.heap.size := by have := HON.out.lt; omega
                replace HON := Lib.hid (HON.out.ext ((Ext.refl _).alloc (.cells #[] 3)))
                refine hK24 _ _ dB ?_
                clear hK24
                refine wpAnyLH_one (i := 26) rfl (by kernel_rfl) (fun K26 hK26 => ?_)
                rw [if_pos (by rfl)]
                refine wp_row _ _ 30 Tryz.underlying30 rfl rfl HB.out rfl (HRx.out _ (hX14.trans dB)) (by rw [Hlx.out]; simp; omega) dB.size ?_
                intro vp WA hRA hBA hGA
                rw [List.nil_append] at hRA
                have HAp := Lib.hid hRA
                have dA : Ext w11 WA := Ext.mk' (Below.trans dB hBA)
                replace HON := Lib.hid (HON.out.other hGA hne)
                clear hRA hBA hGA HB
                refine hK26 _ _ dA ?_
                clear hK26
                refine wpAnyLH_one (i := 27) rfl (by kernel_rfl) (fun K27 hK27 => ?_)
                go_simp
                refine (same_ok (own_rowx HON.out Hlx.out) (RowV.row HAp.out) (by rw [Hlx.out]; omega) rfl).mono ?_
                rintro e WS ⟨rfl, hES⟩
                have dS := dA.trans hES
                refine hK27 _ _ dS ?_
                clear hK27
                refine wpAnyLH_end (by kernel_rfl) ?_
                go_wp2_with fail
                go_meet
                exact ⟨rfl, dS⟩
              case refine_2 =>
                go_simp
                have HB0 := RowV.mono (row_lit0 (w := w11.drew) (T := 3) rfl) d7.size
                rw [show w11.drew.heap.size = w11.heap.size by simp] at HB0
                have HB := Lib.hid HB0
                clear HB0
                have dB := d7.alloc (.cells #[] 3)
                refine hK24 _ _ dB ?_
                clear hK24
                refine wpAnyLH_one (i := 23) rfl (by kernel_rfl) (fun K23 hK23 => ?_)
                go_simp
                refine (hno.out _ g1 g2 g3 a b (HP14.out.ext dB) ha hb).mono ?_
                rintro e WN ⟨gn, rfl, hON, hEN⟩
                have dN := dB.trans hEN
                rw [HAx.out] at hON
                have HON := Lib.hid hON
                have hne : gn ≠ w11.heap.size := by have := hON.lt; simp at this; omega
                replace HB := Lib.hid (RowV.ext HB.out hEN)
                clear hON
                refine hK23 _ _ dN ?_
                clear hK23
                refine wpAnyLH_one (i := 26) rfl (by kernel_rfl) (fun K26 hK26 => ?_)
                rw [if_pos (by rfl)]
                refine wp_row _ _ 30 Tryz.underlying30 rfl rfl HB.out rfl (HRx.out _ (hX14.trans dN)) (by rw [Hlx.out]; simp; omega) dN.size ?_
                intro vp WA hRA hBA hGA
                rw [List.nil_append] at hRA
                have HAp := Lib.hid hRA
                have dA : Ext w11 WA := Ext.mk' (Below.trans dN hBA)
                replace HON := Lib.hid (HON.out.other hGA hne)
                clear hRA hBA hGA HB
                refine hK26 _ _ dA ?_
                clear hK26
                refine wpAnyLH_one (i := 27) rfl (by kernel_rfl) (fun K27 hK27 => ?_)
                go_simp
                refine (same_ok (own_rowx HON.out Hlx.out) (RowV.row HAp.out) (by rw [Hlx.out]; omega) rfl).mono ?_
                rintro e WS ⟨rfl, hES⟩
                have dS := dA.trans hES
                refine hK27 _ _ dS ?_
                clear hK27
                refine wpAnyLH_end (by kernel_rfl) ?_
                go_wp2_with fail
                go_meet
                exact ⟨rfl, dS⟩
            case rest =>
              obtain ⟨rfl, hY⟩ := hcut
              have hX15 := hX14.trans hY
              go_wp2_with fail
              go_ret
              exact ⟨rfl, hX15⟩
          · obtain ⟨rfl, rfl⟩ := HR1'.out.nil
            go_wp2_with fail
            refine wp_region_quiet_lit (by kernel_rfl) (by kernel_rfl) ?_
            repeat (go_big_quiet_step (fail))
            refine wpQuiet_nil ?_
            rintro w' ⟨k, rfl⟩
            have hX15 := hX14.drewN k
            go_wp2_with fail
            go_ret
            exact ⟨rfl, hX15⟩
        · have hR1 := HR1.out
          rw [if_neg hcd] at hR1
          obtain ⟨rfl, rfl, rfl, hzc⟩ := hR1
          rw [← hzc] at hck
          have hz0 : ¬ z = 0 := by rw [hzc]; exact hcd
          have hz1 : (z == 0) = false := beq_eq_false_iff_ne.2 hz0
          have hz2 : (z != 0) = true := by simp [bne, hz1]
          clear hcd hzc HR1
          go_wp2_with fail
          refine hck.out.mono ?_
          rintro e w10 ⟨rfl, hE13⟩
          replace c0 := hE13.cell c0
          replace c1 := hE13.cell c1
          have hX13 := hX11.trans hE13
          go_wp2_with fail
          go_ret
          exact ⟨by simp, hX13⟩
theorem lm_walk {w : World} {P : Pl} {x : List Int} {vx : Value} (hP : P.ok) (hx : RowR w vx x) (hL : Laid w) :
    Calls Tryz.prog 10 #[P.v, vx] w fun e w' => e = .returned (.bool true) ∧ Ext w w' := by
  by_cases h8 : x.length ≤ 8
  · by_cases hz : rowE P.n x = 0
    · exact lm_ok hP hx hL h8 hz
    · exact lm_bad hP hx hL h8 hz
  · exact lm_long hx hL h8
end Go.Proofs.YtnmmglnadnfoiaaGreatDoor
/- Plain: what LayoutAdds says. -/
namespace Go.Proofs.YtnmmglnadnfoiaaGreatDoor
open Go.RowKit Go.Sort
theorem vr_9 {r : List Int} (h : ∀ z ∈ r, -9 ≤ z ∧ z ≤ 9) (j : Nat) : (vr r j).natAbs ≤ 9 := by
  unfold vr
  rcases Nat.lt_or_ge j r.length with hj | hj
  · rw [getD_get hj]
    have := h _ (List.getElem_mem hj); omega
  · rw [List.getD_eq_getElem?_getD, List.getElem?_eq_none hj]; decide
theorem rect_two {n : Nat} {r u : List Int} (lr : r.length = n) (lu : u.length = n) : Rect n [r, u] := fun s hs => by
  simp only [List.mem_cons, List.not_mem_nil, or_false] at hs
  rcases hs with rfl | rfl
  · exact lr
  · exact lu
theorem MovRes.small {n : Nat} {r u q : List Int} {a b z : Int} {f : Bool} (lr : r.length = n) (lu : u.length = n) (lq : q.length = n) (br : ∀ z ∈ r, -9 ≤ z ∧ z ≤ 9) (bu : ∀ z ∈ u, -9 ≤ z ∧ z ≤ 9) (bq : ∀ z ∈ q, -9 ≤ z ∧ z ≤ 9) (h : MovRes n r u q a b f z) :
    z = 0 ∧ (f = true → (-200 ≤ a ∧ a ≤ 200) ∧ (-200 ≤ b ∧ b ≤ 200) ∧ ∀ j, j < n → a * vr r j + b * vr u j = vr q j) := by
  obtain ⟨H, hH, hp⟩ := h
  rcases hp with ⟨h1, _, _, rfl, rfl⟩ | ⟨h1, h2, h3, rfl, rfl⟩ | ⟨h1, h2, _, _, _, _⟩
  · exact ⟨rfl, fun h => by cases h⟩
  · obtain ⟨x0, x1, hx, b0, b1, hc⟩ := solX_two (rect_two lr lu) hH lq h1 (vr_9 br) (vr_9 bu) (vr_9 bq)
    rw [h3] at hx
    injection hx with e1 e2
    injection e2 with e2 _
    subst e1 e2
    exact ⟨rfl, fun _ => ⟨by omega, by omega, hc⟩⟩
  · obtain ⟨x0, x1, hx, b0, b1, hc⟩ := solX_two (rect_two lr lu) hH lq h1 (vr_9 br) (vr_9 bu) (vr_9 bq)
    rw [hx] at h2
    exfalso
    have : smallB [x0, x1] = true := by
      unfold smallB grt
      simp only [List.all_cons, List.all_nil, Bool.and_true, Bool.and_eq_true, Bool.not_eq_true', decide_eq_false_iff_not]
      omega
    rw [this] at h2; cases h2
theorem ways_ok {n : Nat} {r u : List Int} {H : Mx} (lr : r.length = n) (lu : u.length = n) (br : ∀ z ∈ r, -9 ≤ z ∧ z ≤ 9) (bu : ∀ z ∈ u, -9 ≤ z ∧ z ≤ 9) (hH : HnfOf (n + 2) (wideM [r, u]) H) :
    smallM (krn n H) = true ∧ (waysOf (krn n H)).length ≤ 1000 ∧ ∀ p ∈ waysOf (krn n H), (-81 ≤ p.1 ∧ p.1 ≤ 81) ∧ (-81 ≤ p.2 ∧ p.2 ≤ 81) ∧ ∀ j, j < n → p.1 * vr r j + p.2 * vr u j = 0 := by
  obtain ⟨qs, hK⟩ := ker_of (rect_two lr lu) hH
  have hs := fun i (hi : i < (krn n H).length) => ker_small hK (vr_9 br) (vr_9 bu) hi
  have hrc : ∀ s ∈ krn n H, s.length = 2 := hK.1.rect
  have hl : (krn n H).length ≤ 2 := by
    rcases Nat.lt_or_ge 2 (krn n H).length with h2 | h2
    · have g1 := hK.1.inc 0 1 (by omega) (by omega)
      have g2 := hK.1.inc 1 2 (by omega) (by omega)
      have g3 := hK.1.lt 2 (by omega)
      omega
    · exact h2
  refine ⟨?_, by unfold waysOf; rw [List.length_map]; omega, fun p hp => ?_⟩
  · unfold smallM
    refine List.all_eq_true.2 fun s hs2 => ?_
    obtain ⟨i, hi, rfl⟩ := List.getElem_of_mem hs2
    have h2 := hrc _ hs2
    have h3 := hs i hi
    unfold eM at h3
    rw [getD_get hi] at h3
    match hh : (krn n H)[i], h2 with
    | [x0, x1], _ =>
      rw [hh] at h3
      simp at h3
      unfold smallB grt
      simp only [List.all_cons, List.all_nil, Bool.and_true, Bool.and_eq_true, Bool.not_eq_true', decide_eq_false_iff_not]
      omega
  · obtain ⟨s, hs2, rfl⟩ := List.mem_map.1 hp
    obtain ⟨i, hi, rfl⟩ := List.getElem_of_mem hs2
    have h3 := hs i hi
    unfold eM at h3
    rw [getD_get hi] at h3
    have hy := ((hK.2 (vr (krn n H)[i])).1 (.mem (List.mem_map.2 ⟨_, List.getElem_mem hi, rfl⟩))).1
    exact ⟨by omega, by omega, hy⟩
theorem addR_get {n i : Nat} {x o : List Int} (hx : x.length = n) (ho : o.length = n) (hi : i < n) : (addR x o).getD i 0 = x.getD i 0 + o.getD i 0 := by
  rw [getD_get (by simp [addR]; omega), getD_get (by omega), getD_get (by omega)]
  simp [addR]
theorem at_add {n : Nat} {o r u q : List Int} {x y a b : Int} (lo : o.length = n) (lr : r.length = n) (lu : u.length = n) (lq : q.length = n) (h : ∀ j, j < n → a * vr r j + b * vr u j = vr q j) : atL (x + a) (y + b) o r u = addR (atL x y o r u) q := by
  have hl : ∀ x y, (atL x y o r u).length = n := fun x y => by rw [atL_length _ _ _ _ _ (by omega) (by omega)]; exact lo
  refine sam_getD_ext (by rw [hl]; simp [addR, hl, lq]) fun j hj => ?_
  have hj' : j < n := by rwa [hl] at hj
  rw [addR_get (hl x y) lq hj', atL_get _ _ _ _ _ _ (by omega) (by omega) (by omega), atL_get _ _ _ _ _ _ (by omega) (by omega) (by omega), Int.add_mul, Int.add_mul]
  have h1 := h j hj'
  unfold vr at h1
  omega
theorem at_same {n : Nat} {o r u : List Int} {x y a b : Int} (lo : o.length = n) (lr : r.length = n) (lu : u.length = n) (h : ∀ j, j < n → a * vr r j + b * vr u j = 0) : atL (x + a) (y + b) o r u = atL x y o r u := by
  have hl : ∀ x y, (atL x y o r u).length = n := fun x y => by rw [atL_length _ _ _ _ _ (by omega) (by omega)]; exact lo
  refine sam_getD_ext (by rw [hl, hl]) fun j hj => ?_
  have hj' : j < n := by rwa [hl] at hj
  rw [atL_get _ _ _ _ _ _ (by omega) (by omega) (by omega), atL_get _ _ _ _ _ _ (by omega) (by omega) (by omega), Int.add_mul, Int.add_mul]
  have h1 := h j hj'
  unfold vr at h1
  omega
end Go.Proofs.YtnmmglnadnfoiaaGreatDoor
/- layout.Neighbours: the errors. -/
namespace Go.Proofs.YtnmmglnadnfoiaaGreatDoor
open Go.RowKit Go.Sort
set_option maxRecDepth 100000 in
theorem Neighbours_kind {w : World} {k x y : Int} (h1 : k ≠ 1) (h2 : k ≠ 2) :
    Calls Tryz.prog 20 #[.int .i64 k, .agg #[.int .i64 x, .int .i64 y]] w fun e w' => e = .returned (.tuple #[.slice none 0 0, .int .i64 12]) ∧ Ext w w' := by
  have hE := (Ext.refl w).alloc (.cells #[.int .i64 x, .int .i64 y] 27)
  have b1 : (k != 1) = true := by simp [bne_iff_ne, h1]
  have b2 : (k != 2) = true := by simp [bne_iff_ne, h2]
  go_enter Tryz.func20, Tryz.ntmps20
  go_wp2_with fail
  go_ret2
  exact ⟨rfl, hE⟩
set_option maxRecDepth 100000 in
theorem Neighbours_far {w : World} {k x y : Int} (hk : k = 1 ∨ k = 2) (hx : I64 x) (hy : I64 y) (hf : farB x y = true) :
    Calls Tryz.prog 20 #[.int .i64 k, .agg #[.int .i64 x, .int .i64 y]] w fun e w' => e = .returned (.tuple #[.slice none 0 0, .int .i64 3]) ∧ Ext w w' := by
  have hfar := Lib.hid (fun W => far_any (w := W) hx hy)
  rw [show (decide (1000000 < max x y) || decide (min x y < -1000000)) = true from hf] at hfar
  have hX : Ext w (w.alloc (.cells #[.int .i64 x, .int .i64 y] 27)) := (Ext.refl w).alloc _
  clear hf hx hy
  rcases hk with rfl | rfl
  all_goals
    go_enter Tryz.func20, Tryz.ntmps20
    go_wp2_with fail
    refine (hfar.out _).mono ?_
    rintro e w1 ⟨rfl, hE1⟩
    have hX1 := hX.trans hE1
    go_wp2_with fail
    go_ret2
    exact ⟨rfl, hX1⟩
end Go.Proofs.YtnmmglnadnfoiaaGreatDoor
/- schismalaw44: keys. -/
namespace Go.Proofs.YtnmmglnadnfoiaaGreatDoor
open Go.RowKit Go.Sort
theorem kv_get : ∀ {l : List (Int × Int)} {i : Nat} (h : i < l.length), (kv l)[i * 2]? = some (.int .i64 l[i].1) ∧ (kv l)[i * 2 + 1]? = some (.int .i64 l[i].2)
  | [], i, h => by simp at h
  | p :: l, 0, h => by simp [kv]
  | p :: l, i + 1, h => by
    have := kv_get (l := l) (i := i) (by simpa using h)
    have e : kv (p :: l) = .int .i64 p.1 :: .int .i64 p.2 :: kv l := by simp [kv]
    rw [e, show (i + 1) * 2 = i * 2 + 1 + 1 by omega]
    simpa using this
/-- A list of keys in memory. -/
structure KeysR (w : World) (g : Nat) (l : List (Int × Int)) : Prop where
  x : ∀ i (h : i < l.length), w.cell? ⟨g, i * 2, none⟩ = some (.int .i64 l[i].1)
  y : ∀ i (h : i < l.length), w.cell? ⟨g, i * 2 + 1, none⟩ = some (.int .i64 l[i].2)
theorem KeysR.ext {w w' : World} {g : Nat} {l : List (Int × Int)} (h : KeysR w g l) (he : Ext w w') : KeysR w' g l := ⟨fun i hi => he.cell (h.x i hi), fun i hi => he.cell (h.y i hi)⟩
theorem KeysV.open {B : Nat} {w : World} {v : Value} {l : List (Int × Int)} (h : KeysV B w v l) (h0 : 0 < l.length) : ∃ g cap, v = slv g l.length cap ∧ KeysR w g l := by
  rcases h.2 with ⟨_, he⟩ | ⟨g, cap, cur, rfl, _⟩
  · rw [he] at h0; cases h0
  · refine ⟨g, cap, rfl, fun i hi => ?_, fun i hi => ?_⟩
    · have := World.ownsRow.cellAt h (i * 2) (by omega)
      rw [(kv_get hi).1] at this
      simpa using this
    · have := World.ownsRow.cellAt h (i * 2 + 1) (by omega)
      rw [(kv_get hi).2] at this
      simpa using this
set_option maxRecDepth 100000 in
set_option maxHeartbeats 1000000 in
theorem keys_same {w : World} {g1 c1 g2 c2 n : Nat} {l : List (Int × Int)} (hn : n = l.length) (hA : KeysR w g1 l) (hB : KeysR w g2 l) (hl : n ≤ 1000000) :
    Calls Tryz.prog 21 #[slv g1 n c1, slv g2 n c2] w fun e w' => e = .returned (.bool true) ∧ Ext w w' := by
  have HA := Lib.hid hA
  have HB := Lib.hid hB
  have Hn := Lib.hid hn
  clear hA hB hn
  go_enter Tryz.func21, Tryz.ntmps21
  go_wp2_with fail
  go_loopw [5] (fun idx wr => ∃ i : Nat, i ≤ n ∧ idx = .int .i64 i ∧ Ext w wr) (fun idx _ => n - (intOf idx).toNat)
  case atStart => exact ⟨0, by omega, by go_num, Ext.refl _⟩
  case round =>
    obtain ⟨i, hi, rfl, hE⟩ := hrel
    generalize wr = X at *
    by_cases hlt : i < n
    · have hii : (i : Int) < (n : Int) := by omega
      have a0 := (HA.out.ext hE).x i (by rw [← Hn.out]; exact hlt)
      have a1 := (HA.out.ext hE).y i (by rw [← Hn.out]; exact hlt)
      have b0 := (HB.out.ext hE).x i (by rw [← Hn.out]; exact hlt)
      have b1 := (HB.out.ext hE).y i (by rw [← Hn.out]; exact hlt)
      generalize (l[i]'(by rw [← Hn.out]; exact hlt)).1 = x at *
      generalize (l[i]'(by rw [← Hn.out]; exact hlt)).2 = y at *
      go_wp2_with fail
      go_quiet (fail)
      go_wp2_with fail
      go_roundw
      case rel => exact ⟨i + 1, by omega, by go_num, hE.drewN _⟩
      case measure => simp [intOf] <;> omega
    · have hie : i = n := by omega
      subst hie
      go_wp2_with fail
      go_ret
      exact ⟨rfl, hE⟩
end Go.Proofs.YtnmmglnadnfoiaaGreatDoor
