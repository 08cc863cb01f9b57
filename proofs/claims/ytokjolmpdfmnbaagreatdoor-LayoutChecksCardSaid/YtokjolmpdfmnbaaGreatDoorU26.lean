/- Part 26 of the proof of the claim: contracts of the functions that it reaches, and plain laws; no condition. -/
import Derived.Test.YtokjolmpdfmnbaaGreatDoorU22
import Derived.Test.YtokjolmpdfmnbaaGreatDoorU25
import Derived.BigQuiet
import Derived.Test.YtokjolmpdfmnbaaGreatDoorU23
import Derived.Test.YtokjolmpdfmnbaaGreatDoorU24
namespace Go.Proofs.YtokjolmpdfmnbaaGreatDoor
open Go.RowKit Go.Sort
set_option maxRecDepth 100000 in
set_option maxHeartbeats 4000000 in
theorem ckl_any {w : World} {k : Int} {so sr su : Option Addr} {no co nr cr nu cu : Nat} {o r u : List Int} (ho : RowR w (.slice so no co) o) (hr : RowR w (.slice sr nr cr) r) (hu : RowR w (.slice su nu cu) u) :
    Calls Tryz.prog 24 #[layq k so no co sr nr cr su nu cu] w fun e w' => e = .returned (.int .i64 (checkE k o r u)) ∧ Ext w w' := by
  obtain ⟨hno, -, -⟩ := ho.opened
  obtain ⟨hnr, -, -⟩ := hr.opened
  obtain ⟨hnu, -, -⟩ := hu.opened
  have hck := Lib.hid (fun W (hW : Ext w W) => rowCheck_any (ho.ext hW))
  have hckr := Lib.hid (fun W (hW : Ext w W) => rowCheck_any (hr.ext hW))
  have hcku := Lib.hid (fun W (hW : Ext w W) => rowCheck_any (hu.ext hW))
  obtain ⟨z, hz⟩ : ∃ z, z = chkRow o := ⟨_, rfl⟩
  obtain ⟨zr, hzr⟩ : ∃ z, z = chkRow r := ⟨_, rfl⟩
  obtain ⟨zu, hzu⟩ : ∃ z, z = chkRow u := ⟨_, rfl⟩
  rw [← hz] at hck
  rw [← hzr] at hckr
  rw [← hzu] at hcku
  have Hzr := Lib.hid hzr
  have Hzu := Lib.hid hzu
  have Hnr := Lib.hid hnr
  have Hnu := Lib.hid hnu
  clear hzr hzu hnr hnu ho hr hu
  have hX : Ext w (w.alloc (.cells #[.int .i64 k, .slice so no co, .slice sr nr cr, .slice su nu cu] 54)) := (Ext.refl w).alloc _
  have x0 : (w.alloc (.cells #[.int .i64 k, .slice so no co, .slice sr nr cr, .slice su nu cu] 54)).cell? ⟨w.heap.size, 1, none⟩ = some (.slice so no co) := by go_simp
  have x1 : (w.alloc (.cells #[.int .i64 k, .slice so no co, .slice sr nr cr, .slice su nu cu] 54)).cell? ⟨w.heap.size, 2, none⟩ = some (.slice sr nr cr) := by go_simp
  have x2 : (w.alloc (.cells #[.int .i64 k, .slice so no co, .slice sr nr cr, .slice su nu cu] 54)).cell? ⟨w.heap.size, 3, none⟩ = some (.slice su nu cu) := by go_simp
  by_cases hk : k = 1 ∨ k = 2
  case neg =>
    have HP := Lib.hid (show checkE k o r u = 12 by unfold checkE; rw [if_neg hk])
    have b1 : (k != 1) = true := by simp [bne_iff_ne]; exact fun h => hk (.inl h)
    have b2 : (k != 2) = true := by simp [bne_iff_ne]; exact fun h => hk (.inr h)
    have b3 : ¬ k = 1 := fun h => hk (.inl h)
    have b4 : ¬ k = 2 := fun h => hk (.inr h)
    clear hck hckr hcku hz hno hk x0 x1 x2
    go_enter Tryz.func24, Tryz.ntmps24
    go_wp2_with fail
    go_ret
    exact ⟨by rw [HP.out]; rfl, hX⟩
  case pos =>
    by_cases hz0 : z = 0
    case neg =>
      have HP := Lib.hid (show checkE k o r u = z by unfold checkE; rw [if_pos hk, ← hz, if_neg hz0])
      have h2 : (z == 0) = false := beq_eq_false_iff_ne.2 hz0
      have h3 : (z != 0) = true := by simp [bne, h2]
      clear hckr hcku hz hno
      rcases hk with rfl | rfl
      all_goals
        go_enter Tryz.func24, Tryz.ntmps24
        go_wp2_with fail
        refine (hck.out _ hX).mono ?_
        rintro e W2 ⟨rfl, hE2⟩
        have hE3 := hX.trans hE2
        go_wp2_with fail
        go_ret
        exact ⟨by rw [HP.out]; rfl, hE3⟩
    case pos =>
      subst hz0
      by_cases h12 : no ≤ 12
      case neg =>
        have HP := Lib.hid (show checkE k o r u = 4 by unfold checkE; rw [if_pos hk, if_pos hz.symm, if_neg (by rw [← hno]; exact h12)])
        have hn : ¬ (no : Int) ≤ 12 := by omega
        have hn2 : (12 : Int) < (no : Int) := by omega
        have hn3 : (no : Int) > 12 := by omega
        clear hckr hcku hz hno
        rcases hk with rfl | rfl
        all_goals
          go_enter Tryz.func24, Tryz.ntmps24
          go_wp2_with fail
          refine (hck.out _ hX).mono ?_
          rintro e W2 ⟨rfl, hE2⟩
          have d0 := hE2.cell x0
          have hE3 := hX.trans hE2
          go_wp2_with fail
          go_ret
          exact ⟨by rw [HP.out]; rfl, hE3⟩
      case pos =>
        have HP := Lib.hid (show checkE k o r u = allE no [r, u] by unfold checkE; rw [if_pos hk, if_pos hz.symm, if_pos (by rw [← hno]; exact h12), hno])
        have hn : (no : Int) ≤ 12 := by omega
        have hn2 : ¬ (12 : Int) < (no : Int) := by omega
        have hn3 : ¬ (no : Int) > 12 := by omega
        clear hz hno
        rcases hk with rfl | rfl
        all_goals
          go_enter Tryz.func24, Tryz.ntmps24
          go_wp2_with fail
          refine (hck.out _ hX).mono ?_
          rintro e W2 ⟨rfl, hE2⟩
          have d0 := hE2.cell x0
          have d1 := hE2.cell x1
          have d2 := hE2.cell x2
          have dl := World.block_lt_of_cell? _ _ d0
          have hX2 := hX.trans hE2
          generalize w.heap.size = b at *
          clear hX x0 x1 x2 hE2 hck
          go_wp2_with fail
          go_loopw [5, 6, 31] (fun xv ev idx wr => ∃ i : Nat, i ≤ 2 ∧ idx = .int .i64 i ∧ wr.cell? ⟨W2.heap.size, 0, none⟩ = some (.slice sr nr cr) ∧ wr.cell? ⟨W2.heap.size, 1, none⟩ = some (.slice su nu cu) ∧ Hid (allE no [r, u] = allE no ([r, u].drop i)) ∧ Ext W2 wr) (fun _ _ idx _ => 2 - (intOf idx).toNat)
          case atStart => exact ⟨0, by omega, by go_num, by go_simp, by go_simp, Lib.hid rfl, (Ext.refl _).alloc _⟩
          case round =>
            obtain ⟨i, hi, rfl, r1, r2, HA, hE⟩ := hrel
            generalize wr = X at *
            have y0 := hE.cell d0
            have hXX := hX2.trans hE
            rcases (show i = 0 ∨ i = 1 ∨ i = 2 by omega) with rfl | rfl | rfl
            · have hcx := Lib.hid (hckr.out X hXX)
              have Hst := Lib.hid (fun h0 => allE_drop (n := no) (F := [r, u]) (i := 0) (by simp) h0)
              have Hsp := Lib.hid (fun h0 => allE_stop (n := no) (F := [r, u]) (i := 0) (by simp) h0)
              simp only [List.getElem_cons_zero] at Hst Hsp
              by_cases hz0 : zr = 0
              · subst hz0
                by_cases hmn : nr = no
                · subst hmn
                  have HA2 := Lib.hid (HA.out.trans (Hst.out (rowE_ok Hnr.out.symm Hzr.out.symm)))
                  clear Hst Hsp HA
                  go_wp2_with fail
                  refine hcx.out.mono ?_
                  rintro e W ⟨rfl, hW⟩
                  have t1 := hW.cell r1
                  have t2 := hW.cell r2
                  have t3 := hW.cell y0
                  have hE9 := hE.trans hW
                  clear hcx
                  go_wp2_with fail
                  go_roundw
                  case rel => exact ⟨0 + 1, by omega, by go_num, t1, t2, HA2, hE9⟩
                  case measure => simp [intOf] <;> omega
                · have hre : rowE no r = 5 := by unfold rowE; rw [if_pos Hzr.out.symm, if_neg (by rw [← Hnr.out]; exact hmn)]
                  have HA2 := Lib.hid (HA.out.trans (Hsp.out (by rw [hre]; decide)))
                  rw [hre] at HA2
                  have g1 : ¬ ((nr : Int) = (no : Int)) := by omega
                  have g2 : ((nr : Int) == (no : Int)) = false := beq_eq_false_iff_ne.2 g1
                  have g3 : ((nr : Int) != (no : Int)) = true := by simp [bne, g2]
                  clear Hst Hsp HA hre
                  go_wp2_with fail
                  refine hcx.out.mono ?_
                  rintro e W ⟨rfl, hW⟩
                  have t3 := hW.cell y0
                  have hE9 := hX2.trans (hE.trans hW)
                  clear hcx
                  go_wp2_with fail
                  go_ret
                  exact ⟨by rw [HP.out, HA2.out]; rfl, hE9⟩
              · have hre : rowE no r = zr := by unfold rowE; rw [if_neg (by rw [← Hzr.out]; exact hz0), ← Hzr.out]
                have HA2 := Lib.hid (HA.out.trans (Hsp.out (by rw [hre]; exact hz0)))
                rw [hre] at HA2
                have g2 : (zr == 0) = false := beq_eq_false_iff_ne.2 hz0
                have g3 : (zr != 0) = true := by simp [bne, g2]
                clear Hst Hsp HA hre
                go_wp2_with fail
                refine hcx.out.mono ?_
                rintro e W ⟨rfl, hW⟩
                have hE9 := hX2.trans (hE.trans hW)
                clear hcx
                go_wp2_with fail
                go_ret
                exact ⟨by rw [HP.out, HA2.out]; rfl, hE9⟩
            · have hcx := Lib.hid (hcku.out X hXX)
              have Hst := Lib.hid (fun h0 => allE_drop (n := no) (F := [r, u]) (i := 1) (by simp) h0)
              have Hsp := Lib.hid (fun h0 => allE_stop (n := no) (F := [r, u]) (i := 1) (by simp) h0)
              simp only [List.getElem_cons_zero, List.getElem_cons_succ] at Hst Hsp
              by_cases hz0 : zu = 0
              · subst hz0
                by_cases hmn : nu = no
                · subst hmn
                  have HA2 := Lib.hid (HA.out.trans (Hst.out (rowE_ok Hnu.out.symm Hzu.out.symm)))
                  clear Hst Hsp HA
                  go_wp2_with fail
                  refine hcx.out.mono ?_
                  rintro e W ⟨rfl, hW⟩
                  have t1 := hW.cell r1
                  have t2 := hW.cell r2
                  have t3 := hW.cell y0
                  have hE9 := hE.trans hW
                  clear hcx
                  go_wp2_with fail
                  go_roundw
                  case rel => exact ⟨1 + 1, by omega, by go_num, t1, t2, HA2, hE9⟩
                  case measure => simp [intOf] <;> omega
                · have hre : rowE no u = 5 := by unfold rowE; rw [if_pos Hzu.out.symm, if_neg (by rw [← Hnu.out]; exact hmn)]
                  have HA2 := Lib.hid (HA.out.trans (Hsp.out (by rw [hre]; decide)))
                  rw [hre] at HA2
                  have g1 : ¬ ((nu : Int) = (no : Int)) := by omega
                  have g2 : ((nu : Int) == (no : Int)) = false := beq_eq_false_iff_ne.2 g1
                  have g3 : ((nu : Int) != (no : Int)) = true := by simp [bne, g2]
                  clear Hst Hsp HA hre
                  go_wp2_with fail
                  refine hcx.out.mono ?_
                  rintro e W ⟨rfl, hW⟩
                  have t3 := hW.cell y0
                  have hE9 := hX2.trans (hE.trans hW)
                  clear hcx
                  go_wp2_with fail
                  go_ret
                  exact ⟨by rw [HP.out, HA2.out]; rfl, hE9⟩
              · have hre : rowE no u = zu := by unfold rowE; rw [if_neg (by rw [← Hzu.out]; exact hz0), ← Hzu.out]
                have HA2 := Lib.hid (HA.out.trans (Hsp.out (by rw [hre]; exact hz0)))
                rw [hre] at HA2
                have g2 : (zu == 0) = false := beq_eq_false_iff_ne.2 hz0
                have g3 : (zu != 0) = true := by simp [bne, g2]
                clear Hst Hsp HA hre
                go_wp2_with fail
                refine hcx.out.mono ?_
                rintro e W ⟨rfl, hW⟩
                have hE9 := hX2.trans (hE.trans hW)
                clear hcx
                go_wp2_with fail
                go_ret
                exact ⟨by rw [HP.out, HA2.out]; rfl, hE9⟩
            · have HA2 := Lib.hid (show allE no [r, u] = 0 by rw [HA.out]; rfl)
              clear HA
              go_wp2_with fail
              go_ret
              exact ⟨by rw [HP.out, HA2.out]; rfl, hXX⟩
end Go.Proofs.YtokjolmpdfmnbaaGreatDoor
namespace Go.Proofs.YtokjolmpdfmnbaaGreatDoor
open Go.RowKit Go.Sort
end Go.Proofs.YtokjolmpdfmnbaaGreatDoor
namespace Go.Proofs.YtokjolmpdfmnbaaGreatDoor
open Go.RowKit Go.Sort
structure KeysR (w : World) (g : Nat) (l : List (Int × Int)) : Prop where
  x : ∀ i (h : i < l.length), w.cell? ⟨g, i * 2, none⟩ = some (.int .i64 l[i].1)
  y : ∀ i (h : i < l.length), w.cell? ⟨g, i * 2 + 1, none⟩ = some (.int .i64 l[i].2)
theorem KeysR.ext {w w' : World} {g : Nat} {l : List (Int × Int)} (h : KeysR w g l) (he : Ext w w') : KeysR w' g l := ⟨fun i hi => he.cell (h.x i hi), fun i hi => he.cell (h.y i hi)⟩
end Go.Proofs.YtokjolmpdfmnbaaGreatDoor
namespace Go.Proofs.YtokjolmpdfmnbaaGreatDoor
open Go.RowKit Go.Sort
theorem kyRow_c (m : Nat) (q : List Int) (y : Int) (o r u : List Int) {x : Int} (hx : -(m : Int) ≤ x) : kyRow m q y o r u (x + 1 + m).toNat = kyRow m q y o r u (x + m).toNat ++ (if atL x y o r u = q then [(x, y)] else []) := by
  obtain ⟨t, ht⟩ : ∃ t : Nat, x = (t : Int) - m := ⟨(x + m).toNat, by omega⟩
  subst ht
  rw [show ((t : Int) - m + 1 + m).toNat = t + 1 by omega, show ((t : Int) - m + m).toNat = t by omega, kyRow_succ]
theorem kyTo_c (m : Nat) (q : List Int) (o r u : List Int) {y : Int} (hy : -(m : Int) ≤ y) : kyTo m q o r u (y + 1 + m).toNat = kyTo m q o r u (y + m).toNat ++ kyRow m q y o r u (2 * m + 1) := by
  obtain ⟨t, ht⟩ : ∃ t : Nat, y = (t : Int) - m := ⟨(y + m).toNat, by omega⟩
  subst ht
  rw [show ((t : Int) - m + 1 + m).toNat = t + 1 by omega, show ((t : Int) - m + m).toNat = t by omega, kyTo_succ]
end Go.Proofs.YtokjolmpdfmnbaaGreatDoor
namespace Go.Proofs.YtokjolmpdfmnbaaGreatDoor
open Go.RowKit Go.Sort
theorem at_gok {w : World} {k x y : Int} {n co cr cu cq nq : Nat} {so sr su sq : Option Addr} {o r u q : List Int} (h : LayG w k n so co sr cr su cu o r u) (hx : -1000000 ≤ x ∧ x ≤ 1000000) (hy : -1000000 ≤ y ∧ y ≤ 1000000) (hq : RowR w (.slice sq nq cq) q) :
    Calls Tryz.prog 73 #[layg k n so co sr cr su cu, .agg #[.int .i64 x, .int .i64 y]] w fun e w' => ∃ g, e = .returned (slv g n n) ∧ Ext w w' ∧ Calls Tryz.prog 72 #[slv g n n, .slice sq nq cq] w' (fun e w'' => e = .returned (.bool (decide (atL x y o r u = q))) ∧ Ext w' w'') := by
  have hl : (atL x y o r u).length = n := by rw [atL_length _ _ _ _ _ (by rw [h.lo, h.lr]) (by rw [h.lo, h.lu])]; exact h.lo
  have hn := h.n12
  refine (at_g h hx hy).mono ?_
  rintro e w' ⟨g, rfl, hO, hE⟩
  exact ⟨g, rfl, hE, rowEqual_any ⟨_, g, 0, n, by rw [hl], by omega, hO.sl⟩ (hq.ext hE) (by omega)⟩
set_option maxRecDepth 100000 in
set_option maxHeartbeats 2000000 in
theorem Keys_g {w : World} {k : Int} {n co cr cu m cq nq : Nat} {so sr su sq : Option Addr} {o r u q : List Int} (h : LayG w k n so co sr cr su cu o r u) (hm : m ≤ 20) (hq : RowR w (.slice sq nq cq) q) (hz : rowE n q = 0) :
    Calls Tryz.prog 27 #[layg k n so co sr cr su cu, .slice sq nq cq, .int .i64 m] w fun e w' => (∃ v, e = .returned (.tuple #[v, .int .i64 0]) ∧ KeysV w.heap.size w' v (kyTo m q o r u (2 * m + 1))) ∧ Ext w w' := by
  have hck := Lib.hid (fun W (hW : Ext w W) => lsized_g (h.ext hW) (hq.ext hW))
  rw [hz] at hck
  have hwn := Lib.hid (fun W => window_any (m : Int) W)
  rw [show winE (m : Int) = 0 by unfold winE; rw [if_neg (by omega)]] at hwn
  have hnt := Lib.hid (fun W (x y : Int) (hW : Ext w W) (h1 : -20 ≤ x ∧ x ≤ 20) (h2 : -20 ≤ y ∧ y ≤ 20) => at_gok (h.ext hW) (x := x) (y := y) (by omega) (by omega) (hq.ext hW))
  obtain ⟨M, hM⟩ : ∃ M : Int, M = (m : Int) := ⟨_, rfl⟩
  have hM1 : 0 ≤ M := by omega
  have hM2 : M ≤ 20 := by omega
  rw [← hM] at hwn ⊢
  have HM := Lib.hid hM
  have hX : Ext w (w.alloc (.cells #[.int .i64 k, .slice so n co, .slice sr n cr, .slice su n cu] 54)) := (Ext.refl w).alloc _
  have hb := layCg_new w k n so co sr cr su cu
  obtain ⟨b, hbb⟩ : ∃ b, b = w.heap.size := ⟨_, rfl⟩
  clear h hm hM hq hz
  go_enter Tryz.func27, Tryz.ntmps27
  go_wp2_with fail
  refine (hck.out _ hX).mono ?_
  rintro e w1 ⟨rfl, hE1⟩
  have hb1 := hb.ext hE1
  have hX1 := hX.trans hE1
  clear hE1 hck hX hb
  go_wp2_with fail
  refine (hwn.out _).mono ?_
  rintro e w2 ⟨rfl, hE2⟩
  have hb2 := Lib.hid (hb1.ext hE2)
  have hX2 := hX1.trans hE2
  have hneg : IntKind.i64.wrap (-M) = -M := IntWalk.i64_in _ (by omega)
  rw [← hbb] at hb2
  clear hE2 hwn hX1 hb1
  rw [← hbb]
  clear hbb
  go_wp2_with fail
  go_loopw [10, 11, 12, 13] (fun out yv xv kv wr => ∃ y : Int, -M ≤ y ∧ y ≤ M + 1 ∧ yv = .int .i64 y ∧ Hid (KeysV w2.heap.size wr out (kyTo m q o r u (y + m).toNat)) ∧ Ext w2 wr) (fun _ yv _ _ _ => (M + 1 - intOf yv).toNat)
  case atStart => exact ⟨-M, by omega, by omega, rfl, Lib.hid (by rw [HM.out, show (-(m : Int) + m).toNat = 0 by omega]; exact KeysV.nil _ _), Ext.refl _⟩
  case round =>
    obtain ⟨y, hy1, hy2, rfl, hO, hE3⟩ := hrel
    generalize wr = Y at *
    by_cases hy3 : y ≤ M
    · go_wp2_with fail
      go_loopw [10, 12, 13] (fun out xv kv wr => ∃ x : Int, -M ≤ x ∧ x ≤ M + 1 ∧ xv = .int .i64 x ∧ Hid (KeysV w2.heap.size wr out (kyTo m q o r u (y + m).toNat ++ kyRow m q y o r u (x + m).toNat)) ∧ Ext w2 wr) (fun _ xv _ _ => (M + 1 - intOf xv).toNat)
      case atStart => exact ⟨-M, by omega, by omega, rfl, Lib.hid (by rw [HM.out, show (-(m : Int) + m).toNat = 0 by omega]; have := hO.out; simpa [kyRow] using this), hE3⟩
      case round =>
        obtain ⟨x, hx1, hx2, rfl, hI, hE4⟩ := hrel
        generalize wr = Z at *
        have hXZ := hX2.trans hE4
        by_cases hx3 : x ≤ M
        · obtain ⟨c0, c1, c2, c3⟩ := hb2.out.ext hE4
          have hZn : Ext w (Z.alloc (.cells #[.int .i64 x, .int .i64 y] 68)) := hXZ.alloc _
          have hn := Lib.hid (hnt.out _ x y hZn ⟨by omega, by omega⟩ ⟨by omega, by omega⟩)
          have Hx := Lib.hid hx1
          have hE4n : Ext w2 (Z.alloc (.cells #[.int .i64 x, .int .i64 y] 68)) := hE4.alloc _
          have k0 : (Z.alloc (.cells #[.int .i64 x, .int .i64 y] 68)).cell? ⟨Z.heap.size, 0, none⟩ = some (.int .i64 x) := by go_simp
          have k1 : (Z.alloc (.cells #[.int .i64 x, .int .i64 y] 68)).cell? ⟨Z.heap.size, 1, none⟩ = some (.int .i64 y) := by go_simp
          have HIn := Lib.hid (hI.out.ext ((Ext.refl Z).alloc (.cells #[.int .i64 x, .int .i64 y] 68)))
          have hstep := kyRow_c m q y o r u (x := x) (by rw [← HM.out]; exact Hx.out)
          have Hln := Lib.hid (show (kyTo m q o r u (y + m).toNat ++ kyRow m q y o r u (x + m).toNat).length ≤ 100000 by
            have h1 := kyTo_le m q o r u (y + m).toNat
            have h2 := kyRow_le m q y o r u (x + m).toNat
            have h3 : (2 * m + 1) * (y + m).toNat ≤ (2 * 20 + 1) * 41 := Nat.mul_le_mul (by have := HM.out; omega) (by have := HM.out; omega)
            rw [List.length_append]; have := HM.out; omega)
          have dl := World.block_lt_of_cell? _ _ c0
          go_wp2_with fail
          refine hn.out.mono ?_
          rintro e w5 ⟨g, rfl, hE5, hq5⟩
          have Hq5 := Lib.hid hq5
          have j0 := hE5.cell k0
          have j1 := hE5.cell k1
          have HI5 := Lib.hid (HIn.out.ext hE5)
          have hE6 := hE4n.trans hE5
          clear hn hI c0 c1 c2 c3 hq5 HIn k0 k1 hE4n hE5 hZn
          by_cases he : atL x y o r u = q
          · rw [decide_eq_true he] at Hq5
            rw [if_pos he] at hstep
            have Hstep := Lib.hid (show kyTo m q o r u (y + m).toNat ++ kyRow m q y o r u (x + 1 + m).toNat = (kyTo m q o r u (y + m).toNat ++ kyRow m q y o r u (x + m).toNat) ++ [(x, y)] by rw [hstep, List.append_assoc])
            clear hstep
            go_wp2_with fail
            refine Hq5.out.mono ?_
            rintro e w6 ⟨rfl, hE7⟩
            replace j0 := hE7.cell j0
            replace j1 := hE7.cell j1
            have HI6 := Lib.hid (HI5.out.ext hE7)
            have hE8 := hE6.trans hE7
            have hs8 := hE8.size
            clear HI5 Hq5
            go_wp2_with (at_builtin; refine app_key rfl _ _ rfl rfl (HI6.out.ext ((Ext.refl _).alloc _)) rfl (b := w6.heap.size) (y := x) (z := y) (by go_simp) (by go_simp) (by have := Hln.out; omega) (by simp; omega) ?_; intro gg cap2 w8 hO8 hB8 hG8; rw [← Hstep.out] at hO8; have hE9 := Below.trans (hE8.alloc _) hB8; replace hO8 := Lib.hid hO8; clear hB8 hG8)
            refine ⟨⟨x + 1, by omega, by omega, by go_num, by rw [← List.length_append]; exact hO8, hE9⟩, by simp [intOf]; omega⟩
          · rw [decide_eq_false he] at Hq5
            rw [if_neg he, List.append_nil] at hstep
            have Hstep := Lib.hid hstep
            clear hstep
            go_wp2_with fail
            refine Hq5.out.mono ?_
            rintro e w6 ⟨rfl, hE7⟩
            have HI6 := Lib.hid (HI5.out.ext hE7)
            rw [← Hstep.out] at HI6
            have hE8 := hE6.trans hE7
            clear HI5 Hq5
            go_wp2_with fail
            go_roundw
            case rel => exact ⟨x + 1, by omega, by omega, by go_num, HI6, hE8⟩
            case measure => simp [intOf]; omega
        · have hxe : x = M + 1 := by omega
          have hT := hI.out
          rw [hxe, show (M + 1 + (m : Int)).toNat = 2 * m + 1 by rw [HM.out]; omega, ← kyTo_c m q o r u (by rw [← HM.out]; exact hy1)] at hT
          have HT := Lib.hid hT
          clear hT hI hO
          go_wp2_with fail
          go_roundw
          case rel => exact ⟨y + 1, by omega, by omega, by go_num, HT, hE4⟩
          case measure => simp [intOf]; omega
    · have hye : y = M + 1 := by omega
      have hT := hO.out
      rw [hye, show (M + 1 + (m : Int)).toNat = 2 * m + 1 by rw [HM.out]; omega] at hT
      have HT := Lib.hid (KeysV.mono hT hX2.size)
      have HX := Lib.hid (hX2.trans hE3)
      clear hT hO
      go_wp2_with fail
      go_ret2
      exact ⟨⟨_, rfl, HT.out⟩, HX.out⟩
end Go.Proofs.YtokjolmpdfmnbaaGreatDoor
namespace Go.Proofs.YtokjolmpdfmnbaaGreatDoor
open Go.RowKit Go.Sort
def RetZ (w : World) (v : Value) (e : Ending) (w' : World) : Prop := e = .returned v ∧ Ext w w'
def ChkZ (w : World) (v : Value) (z : Int) : Prop := ∀ W, Ext w W → Calls Tryz.prog 25 #[v] W fun e w' => e = .returned (.int .i64 z) ∧ Ext W w'
theorem ChkZ.ext {w w' : World} {v : Value} {z : Int} (h : ChkZ w v z) (he : Ext w w') : ChkZ w' v z := fun W hW => h W (he.trans hW)
set_option maxRecDepth 100000 in
theorem lsized_e {w : World} {k : Int} {no co nr cr nu cu m cq : Nat} {so sr su sq : Option Addr} {z : Int} (h : ChkZ w (layq k so no co sr nr cr su nu cu) z) (hz0 : ¬ z = 0) :
    Calls Tryz.prog 71 #[layq k so no co sr nr cr su nu cu, .slice sq m cq] w fun e w' => e = .returned (.int .i64 z) ∧ Ext w w' := by
  have hck := Lib.hid h
  have h2 : (z == 0) = false := beq_eq_false_iff_ne.2 hz0
  have h3 : (z != 0) = true := by simp [bne, h2]
  have hX : Ext w (w.alloc (.cells #[.int .i64 k, .slice so no co, .slice sr nr cr, .slice su nu cu] 54)) := ((Ext.refl w).alloc _)
  clear h
  go_enter Tryz.func71, Tryz.ntmps71
  go_wp2_with fail
  refine (hck.out _ hX).mono ?_
  rintro e w1 ⟨rfl, hE1⟩
  have hX1 := hX.trans hE1
  go_wp2_with fail
  go_ret
  exact ⟨rfl, hX1⟩
set_option maxRecDepth 100000 in
theorem Window_e {w : World} {k : Int} {no co nr cr nu cu : Nat} {so sr su : Option Addr} {z M : Int} (h : ChkZ w (layq k so no co sr nr cr su nu cu) z) (hz0 : ¬ z = 0) :
    Calls Tryz.prog 26 #[layq k so no co sr nr cr su nu cu, .int .i64 M] w fun e w' => e = .returned (.tuple #[.slice none 0 0, .int .i64 z]) ∧ Ext w w' := by
  have hck := Lib.hid h
  have h2 : (z == 0) = false := beq_eq_false_iff_ne.2 hz0
  have h3 : (z != 0) = true := by simp [bne, h2]
  have hX : Ext w (w.alloc (.cells #[.int .i64 k, .slice so no co, .slice sr nr cr, .slice su nu cu] 54)) := ((Ext.refl w).alloc _)
  clear h
  go_enter Tryz.func26, Tryz.ntmps26
  go_wp2_with fail
  refine (hck.out _ hX).mono ?_
  rintro e w1 ⟨rfl, hE1⟩
  have hX1 := hX.trans hE1
  go_wp2_with fail
  go_ret2
  exact ⟨rfl, hX1⟩
set_option maxRecDepth 100000 in
theorem Note_e {w : World} {k : Int} {no co nr cr nu cu : Nat} {so sr su : Option Addr} {z x y : Int} (h : ChkZ w (layq k so no co sr nr cr su nu cu) z) (hz0 : ¬ z = 0) :
    Calls Tryz.prog 29 #[layq k so no co sr nr cr su nu cu, .agg #[.int .i64 x, .int .i64 y]] w fun e w' => e = .returned (.tuple #[.slice none 0 0, .int .i64 z]) ∧ Ext w w' := by
  have hck := Lib.hid h
  have h2 : (z == 0) = false := beq_eq_false_iff_ne.2 hz0
  have h3 : (z != 0) = true := by simp [bne, h2]
  have hX : Ext w ((w.alloc (.cells #[.int .i64 k, .slice so no co, .slice sr nr cr, .slice su nu cu] 54)).alloc (.cells #[.int .i64 x, .int .i64 y] 68)) := (((Ext.refl w).alloc _).alloc _)
  clear h
  go_enter Tryz.func29, Tryz.ntmps29
  go_wp2_with fail
  refine (hck.out _ hX).mono ?_
  rintro e w1 ⟨rfl, hE1⟩
  have hX1 := hX.trans hE1
  go_wp2_with fail
  go_ret2
  exact ⟨rfl, hX1⟩
set_option maxRecDepth 100000 in
theorem Alike_e {w : World} {k : Int} {no co nr cr nu cu : Nat} {so sr su : Option Addr} {z : Int} (h : ChkZ w (layq k so no co sr nr cr su nu cu) z) (hz0 : ¬ z = 0) :
    Calls Tryz.prog 32 #[layq k so no co sr nr cr su nu cu] w fun e w' => e = .returned (.tuple #[.slice none 0 0, .int .i64 z]) ∧ Ext w w' := by
  have hck := Lib.hid h
  have h2 : (z == 0) = false := beq_eq_false_iff_ne.2 hz0
  have h3 : (z != 0) = true := by simp [bne, h2]
  have hX : Ext w (w.alloc (.cells #[.int .i64 k, .slice so no co, .slice sr nr cr, .slice su nu cu] 54)) := ((Ext.refl w).alloc _)
  clear h
  go_enter Tryz.func32, Tryz.ntmps32
  go_wp2_with fail
  refine (hck.out _ hX).mono ?_
  rintro e w1 ⟨rfl, hE1⟩
  have hX1 := hX.trans hE1
  go_wp2_with fail
  go_ret2
  exact ⟨rfl, hX1⟩
set_option maxRecDepth 100000 in
theorem Single_e {w : World} {k : Int} {no co nr cr nu cu : Nat} {so sr su : Option Addr} {z : Int} (h : ChkZ w (layq k so no co sr nr cr su nu cu) z) (hz0 : ¬ z = 0) :
    Calls Tryz.prog 33 #[layq k so no co sr nr cr su nu cu] w fun e w' => e = .returned (.tuple #[.bool false, .int .i64 z]) ∧ Ext w w' := by
  have hck := Lib.hid (fun W (hW : Ext w W) => Alike_e (h.ext hW) hz0)
  have h2 : (z == 0) = false := beq_eq_false_iff_ne.2 hz0
  have h3 : (z != 0) = true := by simp [bne, h2]
  have hX : Ext w (w.alloc (.cells #[.int .i64 k, .slice so no co, .slice sr nr cr, .slice su nu cu] 54)) := (Ext.refl w).alloc _
  clear h
  go_enter Tryz.func33, Tryz.ntmps33
  go_wp2_with fail
  refine (hck.out _ hX).mono ?_
  rintro e w1 ⟨rfl, hE1⟩
  have hX1 := hX.trans hE1
  go_wp2_with fail
  go_ret2
  exact ⟨rfl, hX1⟩
set_option maxRecDepth 100000 in
theorem Complete_e {w : World} {k : Int} {no co nr cr nu cu : Nat} {so sr su : Option Addr} {z : Int} (h : ChkZ w (layq k so no co sr nr cr su nu cu) z) (hz0 : ¬ z = 0) :
    Calls Tryz.prog 34 #[layq k so no co sr nr cr su nu cu] w fun e w' => e = .returned (.tuple #[.bool false, .int .i64 z]) ∧ Ext w w' := by
  have hck := Lib.hid h
  have h2 : (z == 0) = false := beq_eq_false_iff_ne.2 hz0
  have h3 : (z != 0) = true := by simp [bne, h2]
  have hX : Ext w (w.alloc (.cells #[.int .i64 k, .slice so no co, .slice sr nr cr, .slice su nu cu] 54)) := ((Ext.refl w).alloc _)
  clear h
  go_enter Tryz.func34, Tryz.ntmps34
  go_wp2_with fail
  refine (hck.out _ hX).mono ?_
  rintro e w1 ⟨rfl, hE1⟩
  have hX1 := hX.trans hE1
  go_wp2_with fail
  go_ret2
  exact ⟨rfl, hX1⟩
set_option maxRecDepth 100000 in
theorem Keys_e {w : World} {k : Int} {no co nr cr nu cu m cq : Nat} {so sr su sq : Option Addr} {z M : Int} (h : ChkZ w (layq k so no co sr nr cr su nu cu) z) (hz0 : ¬ z = 0) :
    Calls Tryz.prog 27 #[layq k so no co sr nr cr su nu cu, .slice sq m cq, .int .i64 M] w fun e w' => e = .returned (.tuple #[.slice none 0 0, .int .i64 z]) ∧ Ext w w' := by
  have hck := Lib.hid (fun W (hW : Ext w W) => lsized_e (m := m) (cq := cq) (sq := sq) (h.ext hW) hz0)
  have h2 : (z == 0) = false := beq_eq_false_iff_ne.2 hz0
  have h3 : (z != 0) = true := by simp [bne, h2]
  have hX : Ext w (w.alloc (.cells #[.int .i64 k, .slice so no co, .slice sr nr cr, .slice su nu cu] 54)) := ((Ext.refl w).alloc _)
  clear h
  go_enter Tryz.func27, Tryz.ntmps27
  go_wp2_with fail
  refine (hck.out _ hX).mono ?_
  rintro e w1 ⟨rfl, hE1⟩
  have hX1 := hX.trans hE1
  go_wp2_with fail
  go_ret2
  exact ⟨rfl, hX1⟩
set_option maxRecDepth 100000 in
theorem Picture_e {w : World} {k : Int} {no co nr cr nu cu : Nat} {so sr su : Option Addr} {vn : Value} {z M : Int} (h : ChkZ w (layq k so no co sr nr cr su nu cu) z) (hz0 : ¬ z = 0) :
    Calls Tryz.prog 28 #[layq k so no co sr nr cr su nu cu, .int .i64 M, vn] w fun e w' => e = .returned (.tuple #[.slice none 0 0, .int .i64 z]) ∧ Ext w w' := by
  have hck := Lib.hid h
  have h2 : (z == 0) = false := beq_eq_false_iff_ne.2 hz0
  have h3 : (z != 0) = true := by simp [bne, h2]
  have hX : Ext w (w.alloc (.cells #[.int .i64 k, .slice so no co, .slice sr nr cr, .slice su nu cu] 54)) := ((Ext.refl w).alloc _)
  clear h
  go_enter Tryz.func28, Tryz.ntmps28
  go_wp2_with fail
  refine (hck.out _ hX).mono ?_
  rintro e w1 ⟨rfl, hE1⟩
  have hX1 := hX.trans hE1
  go_wp2_with fail
  go_ret2
  exact ⟨rfl, hX1⟩
set_option maxRecDepth 100000 in
set_option maxHeartbeats 1000000 in
theorem Move_e {w : World} {k : Int} {no co nr cr nu cu m cq : Nat} {so sr su sq : Option Addr} {z : Int} (h : ChkZ w (layq k so no co sr nr cr su nu cu) z) (hz0 : ¬ z = 0) :
    Calls Tryz.prog 31 #[layq k so no co sr nr cr su nu cu, .slice sq m cq] w fun e w' => e = .returned (.tuple #[keyv 0 0, .bool false, .int .i64 z]) ∧ Ext w w' := by
  have hsz := Lib.hid (fun W (hW : Ext w W) => lsized_e (m := m) (cq := cq) (sq := sq) (h.ext hW) hz0)
  have h2 : (z == 0) = false := beq_eq_false_iff_ne.2 hz0
  have h3 : (z != 0) = true := by simp [bne, h2]
  have hX : Ext w ((w.alloc (.cells #[.int .i64 k, .slice so no co, .slice sr nr cr, .slice su nu cu] 54)).alloc (.cells #[.int .i64 0, .int .i64 0] 68)) := ((Ext.refl w).alloc _).alloc _
  have HO := Lib.hid (key_alloc w (.cells #[.int .i64 k, .slice so no co, .slice sr nr cr, .slice su nu cu] 54) 68 (.int .i64 0) (.int .i64 0))
  clear h
  go_enter Tryz.func31, Tryz.ntmps31
  go_wp2_with fail
  refine (hsz.out _ hX).mono ?_
  rintro e w1 ⟨rfl, hE1⟩
  have HO1 := Lib.hid (HO.out.ext hE1)
  have hX1 := hX.trans hE1
  clear hE1 hsz hX
  obtain ⟨q0, q1, f0, f1, r0, r1, hF⟩ := key_end hX1 (by omega) HO1.out (.int .i64 0) (.int .i64 0)
  have Hres := Lib.hid (show RetZ w (.tuple #[keyv 0 0, .bool false, .int .i64 z]) (.returned (.tuple #[keyv 0 0, .bool false, .int .i64 z])) _ from ⟨rfl, hF.out⟩)
  go_wp2_with fail
  refine bodyPost_ret (v := .tuple #[keyv 0 0, .bool false, .int .i64 z]) (by simp [results, Tryz.results31, go_sem, r0, r1]) rfl Hres.out
set_option maxRecDepth 100000 in
set_option maxHeartbeats 1000000 in
theorem First_e {w : World} {k : Int} {no co nr cr nu cu m cq : Nat} {so sr su sq : Option Addr} {z : Int} (h : ChkZ w (layq k so no co sr nr cr su nu cu) z) (hz0 : ¬ z = 0) :
    Calls Tryz.prog 30 #[layq k so no co sr nr cr su nu cu, .slice sq m cq] w fun e w' => e = .returned (.tuple #[keyv 0 0, .bool false, .int .i64 z]) ∧ Ext w w' := by
  have hsz := Lib.hid (fun W (hW : Ext w W) => lsized_e (m := m) (cq := cq) (sq := sq) (h.ext hW) hz0)
  have h2 : (z == 0) = false := beq_eq_false_iff_ne.2 hz0
  have h3 : (z != 0) = true := by simp [bne, h2]
  have hX : Ext w ((w.alloc (.cells #[.int .i64 k, .slice so no co, .slice sr nr cr, .slice su nu cu] 54)).alloc (.cells #[.int .i64 0, .int .i64 0] 68)) := ((Ext.refl w).alloc _).alloc _
  have HO := Lib.hid (key_alloc w (.cells #[.int .i64 k, .slice so no co, .slice sr nr cr, .slice su nu cu] 54) 68 (.int .i64 0) (.int .i64 0))
  clear h
  go_enter Tryz.func30, Tryz.ntmps30
  go_wp2_with fail
  refine (hsz.out _ hX).mono ?_
  rintro e w1 ⟨rfl, hE1⟩
  have HO1 := Lib.hid (HO.out.ext hE1)
  have hX1 := hX.trans hE1
  clear hE1 hsz hX
  obtain ⟨q0, q1, f0, f1, r0, r1, hF⟩ := key_end hX1 (by omega) HO1.out (.int .i64 0) (.int .i64 0)
  have Hres := Lib.hid (show RetZ w (.tuple #[keyv 0 0, .bool false, .int .i64 z]) (.returned (.tuple #[keyv 0 0, .bool false, .int .i64 z])) _ from ⟨rfl, hF.out⟩)
  go_wp2_with fail
  refine bodyPost_ret (v := .tuple #[keyv 0 0, .bool false, .int .i64 z]) (by simp [results, Tryz.results30, go_sem, r0, r1]) rfl Hres.out
end Go.Proofs.YtokjolmpdfmnbaaGreatDoor
