/- Part 28 of the proof of the claim: contracts of the functions that it reaches, and plain laws; no condition. -/
import Derived.Test.YtnmmglnadnfoiaaGreatDoorV27
import Derived.BigQuiet
import Derived.Test.YtnmmglnadnfoiaaGreatDoorV24
import Derived.Test.YtnmmglnadnfoiaaGreatDoorV26
import Derived.Test.YtnmmglnadnfoiaaGreatDoorV14
/- schismalaw44: note, at keys of whatever numbers a row may have. -/
namespace Go.Proofs.YtnmmglnadnfoiaaGreatDoor
open Go.RowKit Go.Sort
theorem mul_i9 {x z : Int} (hx : -1000000000 ≤ x ∧ x ≤ 1000000000) (hz : -1000000000 ≤ z ∧ z ≤ 1000000000) : -1000000000000000000 ≤ x * z ∧ x * z ≤ 1000000000000000000 := by
  have h1 : (x * z).natAbs ≤ 1000000000 * 1000000000 := by rw [Int.natAbs_mul]; exact Nat.mul_le_mul (by omega) (by omega)
  omega
set_option maxRecDepth 100000 in
set_option maxHeartbeats 1000000 in
theorem note44_big {w : World} {k x y : Int} {n go co gr cr gu cu : Nat} {o r u : List Int} (h : LayP w k n go co gr cr gu cu o r u) (hx : -1000000000 ≤ x ∧ x ≤ 1000000000) (hy : -1000000000 ≤ y ∧ y ≤ 1000000000) :
    Calls Tryz.prog 19 #[layv k n go co gr cr gu cu, .int .i64 x, .int .i64 y] w fun e w' => ∃ g, e = .returned (slv g n n) ∧ OwnV 3 w.heap.size w' g n (is (atL x y o r u)) ∧ Ext w w' := by
  have H := Lib.hid h
  obtain ⟨i0, hi, hz0, hz1, hz2⟩ := info_parts Tryz.infoInt
  have hinfo : (Tryz.prog.info? 3).map (·.size) = some 1 := by rw [hi]; simp [hz1]
  have Hinfo := Lib.hid hinfo
  have Hlo := Lib.hid h.lo
  have Hlr := Lib.hid h.lr
  have Hlu := Lib.hid h.lu
  have Hbo := Lib.hid (chkRow_ok h.eo).2
  have Hbr := Lib.hid (chkRow_ok h.er).2
  have Hbu := Lib.hid (chkRow_ok h.eu).2
  have hn := h.n12
  obtain ⟨hx1, hx2⟩ := hx
  obtain ⟨hy1, hy2⟩ := hy
  clear h hinfo
  go_enter Tryz.func19, Tryz.ntmps19
  go_wp2_with (at_make; refine wpList_make_full _ rfl _ _ 30 rfl w.heap.size 3 i0 (.int .i64 0) 1 Tryz.underlying30 hi hz0 hz1 .i64 .i64 _ _ n rfl rfl (by omega) (by omega) (by rw [hz2]; omega) (by unfold maxLen; omega) (by simp <;> omega) ?_; intro w1 hown1 hgrow1; have hE1 := ext_grown hgrow1; have d0 : w1.cell? ⟨w.heap.size, 1, none⟩ = some (slv go n co) := hE1.cell (by go_simp); have d1 : w1.cell? ⟨w.heap.size, 2, none⟩ = some (slv gr n cr) := hE1.cell (by go_simp); have d2 : w1.cell? ⟨w.heap.size, 3, none⟩ = some (slv gu n cu) := hE1.cell (by go_simp))
  have hX2 : Ext w w1 := ((Ext.refl w).alloc _).trans hE1
  rw [show (w.alloc (.cells #[.int .i64 k, slv go n co, slv gr n cr, slv gu n cu] 32)).heap.size = w.heap.size + 1 by simp] at hown1
  obtain ⟨g, hg⟩ : ∃ g, g = w.heap.size + 1 := ⟨_, rfl⟩
  rw [← hg] at hown1 ⊢
  have hb0 : OwnV 3 w.heap.size w1 g n (is (List.replicate n 0)) := row_ownV (zero_row hown1) (by simp)
  have HO2 := Lib.hid hb0
  have hgb := hb0.lt
  have hwg : w.heap.size ≤ g := by omega
  obtain ⟨p, hp⟩ : ∃ p, p = w.heap.size := ⟨_, rfl⟩
  have hgp : g ≠ p := by omega
  clear hg hb0 hown1 hgrow1 hE1
  rw [← hp] at d0 d1 d2 ⊢
  have hgo : go ≠ g ∨ n = 0 := by
    rcases Nat.eq_zero_or_pos n with h | h
    · exact .inr h
    · have := H.out.po.2.lt (by rw [is_length, Hlo.out]; exact h)
      left; omega
  have hgr : gr ≠ g ∨ n = 0 := by
    rcases Nat.eq_zero_or_pos n with h | h
    · exact .inr h
    · have := H.out.pr.2.lt (by rw [is_length, Hlr.out]; exact h)
      left; omega
  have hgu : gu ≠ g ∨ n = 0 := by
    rcases Nat.eq_zero_or_pos n with h | h
    · exact .inr h
    · have := H.out.pu.2.lt (by rw [is_length, Hlu.out]; exact h)
      left; omega
  have Hp := Lib.hid hp
  have hB := hgb.1
  clear hp
  go_loopw [8] (fun idx wr => ∃ i : Nat, i ≤ n ∧ idx = .int .i64 i ∧ Hid (OwnV 3 w.heap.size wr g n (is (noTo x y n i o r u))) ∧ Hid (w1.grownBy wr (some g))) (fun idx _ => n - (intOf idx).toNat)
  case atStart => exact ⟨0, by omega, by go_num, Lib.hid (by show OwnV _ _ _ _ _ (is (noTo x y n 0 o r u)); unfold noTo; simpa using HO2.out), Lib.hid (World.grownBy.refl _ _)⟩
  case round =>
    obtain ⟨i, hi', rfl, hO, hG⟩ := hrel
    generalize wr = X at *
    have hXE := ext_trans_grown hX2 hG.out hB
    by_cases hlt : i < n
    · have hii : (i : Int) < (n : Int) := by omega
      have hC : Chg (fun k => k = g) w1 X := Chg.of_grown hG.out rfl
      have e0 := hC.cell (by omega) d0
      have e1 := hC.cell (by omega) d1
      have e2 := hC.cell (by omega) d2
      have hlen := noTo_length (x := x) (y := y) (i := i) Hlo.out Hlr.out Hlu.out (by omega)
      have c1 := hO.out.cell (j := i) (by rw [is_length, hlen]; exact hlt)
      obtain ⟨a, ha⟩ : ∃ a, a = o.getD i 0 := ⟨_, rfl⟩
      obtain ⟨b, hb⟩ : ∃ b, b = r.getD i 0 := ⟨_, rfl⟩
      obtain ⟨c, hc⟩ : ∃ c, c = u.getD i 0 := ⟨_, rfl⟩
      obtain ⟨old, hcl⟩ : ∃ old, X.cell? ⟨g, i, none⟩ = some old := ⟨_, c1⟩
      clear c1
      have c1 := (H.out.po.ext hXE).2.cell i (.int .i64 a) (by rw [ha, getD_get (by rw [Hlo.out]; exact hlt)]; exact is_get (by rw [Hlo.out]; exact hlt))
      have c2 := (H.out.pr.ext hXE).2.cell i (.int .i64 b) (by rw [hb, getD_get (by rw [Hlr.out]; exact hlt)]; exact is_get (by rw [Hlr.out]; exact hlt))
      have c3 := (H.out.pu.ext hXE).2.cell i (.int .i64 c) (by rw [hc, getD_get (by rw [Hlu.out]; exact hlt)]; exact is_get (by rw [Hlu.out]; exact hlt))
      rw [Nat.zero_add] at c1 c2 c3
      have ba : -1000000000 ≤ a ∧ a ≤ 1000000000 := by rw [ha, getD_get (by rw [Hlo.out]; exact hlt)]; exact Hbo.out _ (List.getElem_mem _)
      have bb : -1000000000 ≤ b ∧ b ≤ 1000000000 := by rw [hb, getD_get (by rw [Hlr.out]; exact hlt)]; exact Hbr.out _ (List.getElem_mem _)
      have bc : -1000000000 ≤ c ∧ c ≤ 1000000000 := by rw [hc, getD_get (by rw [Hlu.out]; exact hlt)]; exact Hbu.out _ (List.getElem_mem _)
      have m1 := mul_i9 ⟨hx1, hx2⟩ bb
      have m2 := mul_i9 ⟨hy1, hy2⟩ bc
      have w1' : IntKind.i64.wrap (x * b) = x * b := IntWalk.i64_in _ (by omega)
      have w2' : IntKind.i64.wrap (y * c) = y * c := IntWalk.i64_in _ (by omega)
      have w3' : IntKind.i64.wrap (a + x * b) = a + x * b := IntWalk.i64_in _ (by omega)
      have w4' : IntKind.i64.wrap (a + x * b + y * c) = a + x * b + y * c := IntWalk.i64_in _ (by omega)
      have Hst := Lib.hid (noTo_step (x := x) (y := y) (i := i) Hlo.out Hlr.out Hlu.out hlt)
      rw [← ha, ← hb, ← hc] at Hst
      have k1 := cell_regrown e1
      have k2 := cell_regrown e2
      have k3 := cell_regrown e0
      have k4 := cell_regrown hcl
      have k5 := cell_regrown c1
      have k6 := cell_regrown c2
      have k7 := cell_regrown c3
      have q1 := hcl
      clear ha hb hc ba bb bc m1 m2
      go_wp2_with fail
      refine wp_region_quiet_tail 23 (by kernel_rfl) (by kernel_rfl) ?_
      simp only [List.take_succ_cons, List.take_zero, List.drop_succ_cons, List.drop_zero]
      repeat (go_big_quiet_step (fail))
      refine wpQuiet_nil ?_
      intro _ hw'
      obtain ⟨⟨dq, osq⟩, hw''⟩ := hw'
      subst hw''
      have hE5 := ext_regrown X dq osq
      have d5 := hE5.cell q1
      clear k1 k2 k3 k4 k5 k6 k7
      generalize grow (redrawn X dq) osq = w5 at *
      have f5 := (hO.out.ext hE5).frozen i
      obtain ⟨hO6, hG6⟩ := (hO.out.ext hE5).set i (.int .i64 (a + x * b + y * c))
      rw [← is_set, ← Hst.out] at hO6
      have HO6 := Lib.hid hO6
      have HG6 := Lib.hid (grown_trans hG.out (grown_trans (grown_ext hE5 (some g)) hG6))
      clear hO6 hG6 hE5
      go_wp2_with fail
      go_roundw
      case rel => exact ⟨i + 1, by omega, by go_num, HO6, HG6⟩
      case measure => simp [intOf] <;> omega
    · have hii : ¬ (i : Int) < (n : Int) := by omega
      have hin : i = n := by omega
      have hall : noTo x y n i o r u = atL x y o r u := by
        unfold noTo
        rw [List.take_of_length_le (by rw [atL_length _ _ _ _ _ (by rw [Hlo.out, Hlr.out]) (by rw [Hlo.out, Hlu.out]), Hlo.out]; omega), show n - i = 0 by omega, List.replicate_zero, List.append_nil]
      rw [hall] at hO
      clear hall
      go_wp2_with fail
      go_ret
      exact ⟨g, rfl, hO.out, hXE⟩
end Go.Proofs.YtnmmglnadnfoiaaGreatDoor
/- slices.Equal of rows, row.Equal. -/
namespace Go.Proofs.YtnmmglnadnfoiaaGreatDoor
open Go.RowKit Go.Sort
set_option maxRecDepth 100000 in
set_option maxHeartbeats 1000000 in
theorem SlEq_any {w : World} {va vb : Value} {a b : List Int} (hA : RowR w va a) (hB : RowR w vb b) (hbig : a.length ≤ 1000000) :
    Calls Tryz.prog 79 #[va, vb] w fun e w' => e = .returned (.bool (decide (a = b))) ∧ Ext w w' := by
  obtain ⟨sa, ga, oa, ca, rfl, hca, hSa⟩ := hA
  obtain ⟨sb, gb, ob, cb, rfl, hcb, hSb⟩ := hB
  by_cases hl : a.length = b.length
  · obtain ⟨n, hn⟩ : ∃ n, n = a.length := ⟨_, rfl⟩
    rw [← hl]
    rw [← hn] at hbig ⊢
    have HA := Lib.hid hSa
    have HB := Lib.hid hSb
    have Hn := Lib.hid hn
    have Hm := Lib.hid (hn.trans hl)
    clear hSa hSb hl hn hca hcb
    go_enter Tryz.func79, Tryz.ntmps79
    go_wp2_with fail
    go_loopw [13] (fun idx wr => ∃ i : Nat, i ≤ n ∧ idx = .int .i64 i ∧ Hid (∀ j, j < i → a.getD j 0 = b.getD j 0) ∧ Ext w wr) (fun idx _ => n - (intOf idx).toNat)
    case atStart => exact ⟨0, by omega, by go_num, Lib.hid (fun j h => by omega), Ext.refl _⟩
    case round =>
      obtain ⟨i, hi, rfl, Hz, hE⟩ := hrel
      generalize wr = X at *
      by_cases hlt : i < n
      · have hii : (i : Int) < (n : Int) := by omega
        have c1 := (HA.out.ext hE).cell i (.int .i64 (a[i]'(by rw [← Hn.out]; exact hlt))) (is_get (by rw [← Hn.out]; exact hlt))
        have c2 := (HB.out.ext hE).cell i (.int .i64 (b[i]'(by rw [← Hm.out]; exact hlt))) (is_get (by rw [← Hm.out]; exact hlt))
        obtain rfl := HA.out.addr (by rw [is_length, ← Hn.out]; omega)
        obtain rfl := HB.out.addr (by rw [is_length, ← Hm.out]; omega)
        obtain ⟨x, hx⟩ : ∃ x, x = a[i]'(by rw [← Hn.out]; exact hlt) := ⟨_, rfl⟩
        obtain ⟨y, hy⟩ : ∃ y, y = b[i]'(by rw [← Hm.out]; exact hlt) := ⟨_, rfl⟩
        rw [← hx] at c1
        rw [← hy] at c2
        have Hx := Lib.hid (show a.getD i 0 = x by rw [hx, getD_get (by rw [← Hn.out]; exact hlt)])
        have Hy := Lib.hid (show b.getD i 0 = y by rw [hy, getD_get (by rw [← Hm.out]; exact hlt)])
        clear hx hy
        by_cases hxy : x = y
        · subst hxy
          go_wp2_with fail
          go_quiet (fail)
          go_wp2_with fail
          go_roundw
          case rel => exact ⟨i + 1, by omega, by go_num, Lib.hid (fun j hj => by
            by_cases e : j = i
            · subst e; rw [Hx.out, Hy.out]
            · exact Hz.out j (by omega)), hE.drewN _⟩
          case measure => simp [intOf] <;> omega
        · have hb1 : (x == y) = false := beq_eq_false_iff_ne.2 hxy
          have hb2 : (x != y) = true := by simp [bne, hb1]
          have Hne := Lib.hid (show decide (a = b) = false from decide_eq_false (fun e => hxy (by rw [← Hx.out, ← Hy.out, e])))
          go_wp2_with fail
          go_quiet (fail)
          go_wp2_with fail
          go_ret
          exact ⟨by rw [Hne.out]; rfl, hE.drewN _⟩
      · have Heq := Lib.hid (show decide (a = b) = true from decide_eq_true (sam_getD_ext (by rw [← Hn.out, ← Hm.out]) (fun j hj => Hz.out j (by rw [← Hn.out] at hj; omega))))
        go_wp2_with fail
        go_ret
        exact ⟨by rw [Heq.out]; rfl, hE⟩
  · have hne : decide (a = b) = false := decide_eq_false (fun e => hl (by rw [e]))
    rw [hne]
    have h1 : ¬ ((a.length : Int) = (b.length : Int)) := by omega
    have h2 : ((a.length : Int) == (b.length : Int)) = false := beq_eq_false_iff_ne.2 h1
    have h3 : ((a.length : Int) != (b.length : Int)) = true := by simp [bne, h2]
    clear hSa hSb hca hcb hne
    generalize a.length = n at *
    generalize b.length = m at *
    go_enter Tryz.func79, Tryz.ntmps79
    go_wp2_with fail
    go_ret
    exact ⟨rfl, Ext.refl _⟩
theorem rowEqual_any {w : World} {va vb : Value} {a b : List Int} (hA : RowR w va a) (hB : RowR w vb b) (hbig : a.length ≤ 1000000) :
    Calls Tryz.prog 46 #[va, vb] w fun e w' => e = .returned (.bool (decide (a = b))) ∧ Ext w w' := by
  have h := Lib.hid (SlEq_any hA hB hbig)
  clear hA hB
  go_enter Tryz.func46, Tryz.ntmps46
  go_wp2_with fail
  refine h.out.mono ?_
  rintro e w1 ⟨rfl, hE⟩
  go_wp2_with fail
  go_ret
  exact ⟨rfl, hE⟩
end Go.Proofs.YtnmmglnadnfoiaaGreatDoor
/- schismalaw44: LayoutMoves. -/
namespace Go.Proofs.YtnmmglnadnfoiaaGreatDoor
open Go.RowKit Go.Sort
theorem Key2_eq {a b : Int} : (Value.agg #[.int .i64 a, .int .i64 b]) = keyv a b := rfl
set_option maxRecDepth 100000 in
set_option maxHeartbeats 4000000 in
theorem lm_bad {w : World} {P : Pl} {x : List Int} {vx : Value} (hP : P.ok) (hx : RowR w vx x) (hL : Laid w) (h8 : x.length ≤ 8) (hz : ¬ rowE P.n x = 0) :
    Calls Tryz.prog 10 #[P.v, vx] w fun e w' => e = .returned (.bool true) ∧ Ext w w' := by
  have hkn := Lib.hid (fun W (hW : Ext w W) => known44_any (hL.ext hW))
  have hmk := Lib.hid (fun W => make44 (w := W) hP)
  have hrc := Lib.hid (fun W (hW : Ext w W) => rowCheck_any (hx.ext hW))
  have HRx := Lib.hid (fun W (hW : Ext w W) => hx.ext hW)
  obtain ⟨sx, gx, ox, cx, rfl, hcx, hSx⟩ := hx
  obtain ⟨z, hze⟩ : ∃ z, z = rowE P.n x := ⟨_, rfl⟩
  have hfb := Lib.hid (fun W g1 g2 g3 (h : PlP W P g1 g2 g3) (hW : Ext w W) => First_bad h (HRx.out W hW) hze.symm (by rw [hze]; exact hz))
  have hmb := Lib.hid (fun W g1 g2 g3 (h : PlP W P g1 g2 g3) (hW : Ext w W) => Move_bad h (HRx.out W hW) hze.symm (by rw [hze]; exact hz))
  obtain ⟨nx, hnx⟩ : ∃ nx, nx = x.length := ⟨_, rfl⟩
  have Hnx := Lib.hid hnx
  rw [← hnx] at hfb hmb hrc HRx h8 ⊢
  rw [← hze] at hz
  have hz1 : (z == 0) = false := beq_eq_false_iff_ne.2 hz
  have hz2 : (z != 0) = true := by simp [bne, hz1]
  have hz3 : (z == z) = true := by simp
  obtain ⟨q, hqe⟩ : ∃ q, q = chkRow x := ⟨_, rfl⟩
  rw [← hqe] at hrc
  have Hq := Lib.hid (show q = 0 ∧ z = 5 ∧ ((nx : Int) == (P.n : Int)) = false ∨ ¬ q = 0 ∧ z = q by
    by_cases hq : q = 0
    · refine .inl ⟨hq, ?_⟩
      rw [hze]
      rw [hze] at hz
      unfold rowE at hz ⊢
      rw [if_pos (by rw [← hqe]; exact hq)] at hz ⊢
      by_cases hl : x.length = P.n
      · rw [if_pos hl] at hz; exact absurd rfl hz
      · rw [if_neg hl]; exact ⟨rfl, beq_eq_false_iff_ne.2 (by omega)⟩
    · refine .inr ⟨hq, ?_⟩
      rw [hze]; unfold rowE
      rw [if_neg (by rw [← hqe]; exact hq), ← hqe])
  have hX : Ext w (w.alloc (.cells #[.bool P.hx, .int .u8 P.m, .int .i8 P.a, .int .i8 P.b, .int .i8 P.c, .int .i8 P.d, .int .i8 P.e, .int .i8 P.f, .int .i8 P.p, .int .i8 P.q, .int .i8 P.s] 25)) := (Ext.refl w).alloc _
  have hpc := plC_new w P
  obtain ⟨bp, hbp⟩ : ∃ bp, bp = w.heap.size := ⟨_, rfl⟩
  rw [← hbp] at hpc
  have h9 : ¬ (nx : Int) > 8 := by omega
  clear hSx hcx hL hP hnx hqe hze
  go_enter Tryz.func10, Tryz.ntmps10
  go_wp2_with fail
  refine (hkn.out _ hX).mono ?_
  rintro e w1 ⟨rfl, hE1⟩
  have hX1 := hX.trans hE1
  obtain ⟨k0, k1, k2, k3, k4, k5, k6, k7, k8, k9, k10⟩ := hpc.ext hE1
  rw [← hbp]
  clear hE1 hX hpc hbp hkn
  go_wp2_with fail
  refine (hmk.out _).mono ?_
  rintro e w2 ⟨g1, g2, g3, rfl, hP2, hE2⟩
  have hX2 := hX1.trans hE2
  have HP2 := Lib.hid hP2
  have hb := layC_new w2 P.k P.n g1 P.n g2 P.n g3 P.n
  obtain ⟨bl, hbl⟩ : ∃ bl, bl = w2.heap.size := ⟨_, rfl⟩
  rw [← hbl] at hb
  have hX3 := hX2.alloc (.cells #[.int .i64 P.k, slv g1 P.n P.n, slv g2 P.n P.n, slv g3 P.n P.n] 32)
  have HP3 := Lib.hid (HP2.out.ext ((Ext.refl w2).alloc (.cells #[.int .i64 P.k, slv g1 P.n P.n, slv g2 P.n P.n, slv g3 P.n P.n] 32)))
  have hf3 := Lib.hid (hfb.out _ g1 g2 g3 HP3.out hX3)
  clear k0 k1 k2 k3 k4 k5 k6 k7 k8 k9 k10 hE2 hP2 hX1 hX2 hmk hfb HP2
  go_wp2_with fail
  refine hf3.out.mono ?_
  rintro e w4 ⟨rfl, hE4⟩
  have hX4 := hX3.trans hE4
  have HP4 := Lib.hid (HP3.out.ext hE4)
  have hb4 := hb.ext hE4
  obtain ⟨bk, hbk⟩ : ∃ bk, bk = w4.heap.size := ⟨_, rfl⟩
  have hE5 := (Ext.refl w4).alloc (.cells #[.int .i64 0, .int .i64 0] 27)
  have c0 : (w4.alloc (.cells #[.int .i64 0, .int .i64 0] 27)).cell? ⟨bk, 0, none⟩ = some (.int .i64 0) := by rw [hbk]; go_simp
  have c1 : (w4.alloc (.cells #[.int .i64 0, .int .i64 0] 27)).cell? ⟨bk, 1, none⟩ = some (.int .i64 0) := by rw [hbk]; go_simp
  have hm4 := Lib.hid (hmb.out _ g1 g2 g3 (HP4.out.ext hE5) (hX4.trans hE5))
  have hb5 := hb4.ext hE5
  obtain ⟨l0, l1, l2, l3⟩ := hb4
  have dl := World.block_lt_of_cell? _ _ l0
  have hX5 := hX4.trans hE5
  rw [← hbl]
  clear hf3 hb hX3 hX4 hE4 HP3 HP4 hmb hbl hE5
  go_wp2_with fail
  rw [← hbk]
  refine hm4.out.mono ?_
  rintro e w5 ⟨rfl, hE6⟩
  have dk := World.block_lt_of_cell? _ _ (hE6.cell c0)
  obtain ⟨bw, hbw⟩ : ∃ bw, bw = w5.heap.size := ⟨_, rfl⟩
  have hE7 := hE6.alloc (.cells #[.int .i64 0, .int .i64 0] 27)
  replace c0 := hE7.cell c0
  replace c1 := hE7.cell c1
  have hb6 := hb5.ext hE7
  have hX6 := hX5.trans hE7
  have d0 : (w5.alloc (.cells #[.int .i64 0, .int .i64 0] 27)).cell? ⟨bw, 0, none⟩ = some (.int .i64 0) := by rw [hbw]; go_simp
  have d1 : (w5.alloc (.cells #[.int .i64 0, .int .i64 0] 27)).cell? ⟨bw, 1, none⟩ = some (.int .i64 0) := by rw [hbw]; go_simp
  have hc := Lib.hid (hrc.out _ hX6)
  clear hm4 hb5 hX5 hE6 hE7 hbk l0 l1 l2 l3 dl dk
  go_wp2_with fail
  rw [← hbw]
  refine hc.out.mono ?_
  rintro e w6 ⟨rfl, hE8⟩
  replace c0 := hE8.cell c0
  replace c1 := hE8.cell c1
  replace d0 := hE8.cell d0
  replace d1 := hE8.cell d1
  obtain ⟨l0, l1, l2, l3⟩ := hb6.ext hE8
  have hX7 := hX6.trans hE8
  clear hc hb6 hE8 hX6 hbw
  rcases Hq.out with ⟨rfl, rfl, hq1⟩ | ⟨hq0, rfl⟩
  · have hq2 : ((nx : Int) != (P.n : Int)) = true := by simp [bne, hq1]
    have hq3 : ¬ (nx : Int) = (P.n : Int) := by simpa using hq1
    clear Hq hz1 hz2 hz3 hz
    go_wp2_with fail
    go_ret
    exact ⟨by simp, hX7⟩
  · clear Hq
    go_wp2_with fail
    go_ret
    exact ⟨by simp, hX7⟩
set_option maxRecDepth 100000 in
theorem lm_long {w : World} {P : Pl} {x : List Int} {vx : Value} (hx : RowR w vx x) (hL : Laid w) (h8 : ¬ x.length ≤ 8) :
    Calls Tryz.prog 10 #[P.v, vx] w fun e w' => e = .returned (.bool true) ∧ Ext w w' := by
  have hkn := Lib.hid (fun W (hW : Ext w W) => known44_any (hL.ext hW))
  obtain ⟨sx, gx, ox, cx, rfl, hcx, hSx⟩ := hx
  have h9 : (x.length : Int) > 8 := by omega
  generalize x.length = nx at *
  have hX : Ext w (w.alloc (.cells #[.bool P.hx, .int .u8 P.m, .int .i8 P.a, .int .i8 P.b, .int .i8 P.c, .int .i8 P.d, .int .i8 P.e, .int .i8 P.f, .int .i8 P.p, .int .i8 P.q, .int .i8 P.s] 25)) := (Ext.refl w).alloc _
  clear hSx hcx hL
  go_enter Tryz.func10, Tryz.ntmps10
  go_wp2_with fail
  refine (hkn.out _ hX).mono ?_
  rintro e w1 ⟨rfl, hE1⟩
  have hX1 := hX.trans hE1
  go_wp2_with fail
  refine (hkn.out _ hX1).mono ?_
  rintro e w2 ⟨rfl, hE2⟩
  have hX2 := hX1.trans hE2
  go_wp2_with fail
  go_ret
  exact ⟨rfl, hX2⟩
end Go.Proofs.YtnmmglnadnfoiaaGreatDoor
/- append of a row of ints that may be empty, at an operation by itself. -/
namespace Go.Proofs.YtnmmglnadnfoiaaGreatDoor
open Go.RowKit Go.Sort
theorem run_row {w : World} {B : Nat} {v : Value} {r : List Int} (t T : TypeId) (ht : Tryz.prog.underlying t = some (.slice 3)) (hown : RowV B w v r) {vx : Value} {z : List Int} (hR : RowR w vx z) (hl : r.length + z.length ≤ 1000000000) (hB : B ≤ w.heap.size) :
    ∃ v' w', (Builtin.append_ #[t, t] T #[v, vx]).run Tryz.prog w = .ok v' w' ∧ RowV B w' v' (r ++ z) ∧ w.grownBy w' v.ownBlock := by
  obtain ⟨i0, hi, hz0, hz1, hz2⟩ := info_parts Tryz.infoInt
  obtain ⟨sa, b, c, gc, rfl, hc, hS⟩ := hR
  have hrun : ∃ v' w', (Builtin.append_ #[t, t] T #[v, .slice sa z.length gc]).run Tryz.prog w = .ok v' w' ∧ w'.ownsRow B 3 1 v' (r.length + z.length) (is r ++ is z) ∧ w.grownBy w' v.ownBlock := by
    rcases sa with _ | ad
    · have hz : z = [] := by
        rcases Nat.eq_zero_or_pos z.length with h0 | h0
        · exact List.eq_nil_of_length_eq_zero h0
        · have := hS.addr (by rw [is_length]; exact h0)
          cases this
      subst hz
      refine ⟨v, w, ?_, by have h1 := hown; unfold RowV at h1; simpa [is] using h1, World.grownBy.refl w _⟩
      rcases hown.2 with ⟨rfl, h0⟩ | ⟨g, cap, cur, rfl, _, _, hnc, _⟩
      · simp [Builtin.append_, run_underlying ht, sizeOf, typeInfo, hi, Builtin.lenOf, Builtin.firstCells]
      · simp [Builtin.append_, run_underlying ht, sizeOf, typeInfo, hi, Builtin.lenOf, Builtin.firstCells, hnc, storeCells]
    · have hcells : ∀ j u, (is z)[j]? = some u → w.cell? (ad.add j) = some u := fun j u hu => by
        have hj := (List.getElem?_eq_some_iff.1 hu).1
        obtain rfl : ad = ⟨b, c, none⟩ := Option.some.inj (hS.addr (by omega))
        rw [Lib.add_plain]; exact hS.cell j u hu
      obtain ⟨v', w', h1, h2, h3, _, _⟩ := run_append_own_at (P := Tryz.prog) w B t T 3 i0 _ 1 8 ht hi hz0 hz1 hz2 rfl (by omega) v r.length (is r) hown ad z.length gc (is z) (by rw [is_length, Nat.mul_one]) hcells (fun u hu => by obtain ⟨y, _, rfl⟩ := List.mem_map.1 hu; rfl) (by unfold maxLen; omega) (by omega) hB
      exact ⟨v', w', h1, h2, h3⟩
  obtain ⟨v', w', h1, h2, h3⟩ := hrun
  refine ⟨v', w', h1, ?_, h3⟩
  unfold RowV
  have e : is (r ++ z) = is r ++ is z := by simp [is]
  rw [e, List.length_append]; exact h2
theorem wp_row {w : World} {o : Oper} {a : Act} {K : Act → World → Prop} {Q : Exit → Act → World → Prop} (s x : Operand) (t : TypeId) (ht : Tryz.prog.underlying t = some (.slice 3)) (ho : o.op = .call { callee := .builtin .append, args := #[s, x], argTypes := #[t, t] })
    {B : Nat} {v : Value} {r : List Int} (hs : a.eval s = v) (hown : RowV B w v r) {vx : Value} {z : List Int} (hx : a.eval x = vx) (hR : RowR w vx z) (hl : r.length + z.length ≤ 1000000000) (hB : B ≤ w.heap.size)
    (h : ∀ v' w', RowV B w' v' (r ++ z) → Below B w w' → w.grownBy w' v.ownBlock → K (a.put o.dst v') w') : Oper.wp Tryz.prog o a w K Q := by
  obtain ⟨v', w', h1, h2, h3⟩ := run_row t o.type ht hown hR hl hB
  unfold Oper.wp
  simp [execOp, ho, resolve, invoke, builtin, hs, hx, h1, Result.andThen]
  exact h v' w' h2 (Below.grown (Below.refl _ _) h3 hB (fun q hq => (World.ownsRow.lt hown q hq).1)) h3
theorem row_lit0 {w : World} {T : TypeId} (hT : T = 3) : RowV w.heap.size (w.alloc (.cells #[] T)) (.slice (some ⟨w.heap.size, 0, none⟩) 0 0) [] := by
  subst hT
  exact OwnV.of (xs := []) (cap := 0) (Nat.le_refl _) Array.getElem?_push_size (by simp) (by unfold maxLen; omega) rfl rfl
end Go.Proofs.YtnmmglnadnfoiaaGreatDoor
