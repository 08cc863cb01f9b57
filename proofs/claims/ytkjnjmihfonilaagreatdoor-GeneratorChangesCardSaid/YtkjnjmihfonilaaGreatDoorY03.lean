/- Part 3, beside the shared parts, of the proof of the claim: contracts and plain laws; no condition. -/
import Derived.Test.YtkjnjmihfonilaaGreatDoorV01
import Derived.Test.YtkjnjmihfonilaaGreatDoorV02
import Derived.Test.YtkjnjmihfonilaaGreatDoorV03
import Derived.Test.YtkjnjmihfonilaaGreatDoorV04
import Derived.Test.YtkjnjmihfonilaaGreatDoorV05
import Derived.Test.YtkjnjmihfonilaaGreatDoorV06
import Derived.Test.YtkjnjmihfonilaaGreatDoorV07
import Derived.Test.YtkjnjmihfonilaaGreatDoorV08
import Derived.Test.YtkjnjmihfonilaaGreatDoorV09
import Derived.Test.YtkjnjmihfonilaaGreatDoorV10
import Derived.Test.YtkjnjmihfonilaaGreatDoorV11
import Derived.Test.YtkjnjmihfonilaaGreatDoorV12
import Derived.Test.YtkjnjmihfonilaaGreatDoorV13
import Derived.Test.YtkjnjmihfonilaaGreatDoorV14
import Derived.Test.YtkjnjmihfonilaaGreatDoorV15
import Derived.Test.YtkjnjmihfonilaaGreatDoorV16
import Derived.Test.YtkjnjmihfonilaaGreatDoorV17
import Derived.Test.YtkjnjmihfonilaaGreatDoorV18
import Derived.Test.YtkjnjmihfonilaaGreatDoorV19
import Derived.Test.YtkjnjmihfonilaaGreatDoorV20
import Derived.Test.YtkjnjmihfonilaaGreatDoorV21
import Derived.Test.YtkjnjmihfonilaaGreatDoorV22
import Derived.Test.YtkjnjmihfonilaaGreatDoorV23
import Derived.Test.YtkjnjmihfonilaaGreatDoorV24
import Derived.Test.YtkjnjmihfonilaaGreatDoorV25
import Derived.Test.YtkjnjmihfonilaaGreatDoorV26
import Derived.Test.YtkjnjmihfonilaaGreatDoorV27
import Derived.Test.YtkjnjmihfonilaaGreatDoorV28
import Derived.Test.YtkjnjmihfonilaaGreatDoorV29
import Derived.Test.YtkjnjmihfonilaaGreatDoorV30
import Derived.Test.YtkjnjmihfonilaaGreatDoorY01
import Derived.Test.YtkjnjmihfonilaaGreatDoorY02
namespace Go.Proofs.YtkjnjmihfonilaaGreatDoor
open Go.RowKit Go.Sort
set_option maxRecDepth 100000 in
theorem less_linesC {w0 w : World} {g n m i t E gx cx gy cy gxt cxt gyt cyt : Nat} {q : Int} {ad : List Ad} {ls : List Ln} (hLn : Lns w0.heap.size w g ad ls) (hd : Dim n m ls) (hi : i < ls.length) (ht : t < ls.length) (hne : i ≠ t)
    (hn : n ≤ 1000000) (hm : m ≤ 1000000) (hai : ad[i]? = some ⟨gx, cx, gy, cy⟩) (hat : ad[t]? = some ⟨gxt, cxt, gyt, cyt⟩)
    (hA : All (fun z => z.natAbs < 2 ^ E) (ls.getD i default)) (hB : All (fun z => z.natAbs < 2 ^ E) (ls.getD t default)) (hq : q.natAbs < 2 ^ E) (hE : 2 * E + 2 < LIM) (hL : Laid w0) (hE0 : Ext w0 w) :
    Calls Tryz.prog 104 #[.agg #[slv gx n cx, slv gy m cy], I q, .agg #[slv gxt n cxt, slv gyt m cyt]] w fun e w' =>
      e = .returned (.tuple #[]) ∧ Lns w0.heap.size w' g ad (ls.set i (lsub q (ls.getD i default) (ls.getD t default))) ∧ Ext w0 w' ∧ Chg (fun k => k = gx ∨ k = gy) w w' := by
  have hai' : i < ad.length := by rw [hLn.len]; exact hi
  have hat' : t < ad.length := by rw [hLn.len]; exact ht
  rw [List.getElem?_eq_getElem hai'] at hai
  rw [List.getElem?_eq_getElem hat'] at hat
  have eai := Option.some.inj hai
  have eat := Option.some.inj hat
  have hX := hLn.x i hi hai'
  have hY := hLn.y i hi hai'
  have hXt := hLn.x t ht hat'
  have hYt := hLn.y t ht hat'
  have hoi := hLn.own i hai'
  have hdis := hLn.dis i t hai' hat' hne
  have li := hd.get hi
  have lt := hd.get ht
  rw [getD_get hi] at hA
  rw [getD_get ht] at hB
  rw [getD_get hi, getD_get ht]
  have hwr := fun {w' : World} {l : Ln} (e1 : l.1.length = ls[i].1.length) (e2 : l.2.length = ls[i].2.length) (a : OwnV 80 w0.heap.size w' ad[i].gx ad[i].cx (ss l.1)) (b : OwnV 80 w0.heap.size w' ad[i].gy ad[i].cy (ss l.2)) (c : Chg (fun k => k = ad[i].gx ∨ k = ad[i].gy) w w') => hLn.wrote hai' hi e1 e2 a b c
  rw [eai] at hX hY hoi hdis
  rw [eat] at hXt hYt hdis
  simp only at hX hY hXt hYt hoi hdis
  have h := less_any (w0 := w0) (w := w) (gx := gx) (cx := cx) (gy := gy) (cy := cy) (k := q) (cb := cxt) (cd := cyt) hX hY hoi.2.2 hXt.sl (Ne.symm hdis.1) hYt.sl (Ne.symm hdis.2.1) (Ne.symm hdis.2.2.2) (by rw [lt.1, li.1]; exact Nat.le_refl _) (by rw [lt.2, li.2]; exact Nat.le_refl _) (by rw [li.1]; exact hn) (by rw [li.2]; exact hm)
    (less_big hA.1 hB.1 hq hE) (less_big hA.2 hB.2 hq hE) hL hE0
  rw [li.1, li.2, lt.1, lt.2] at h
  refine h.mono ?_
  rintro e w' ⟨rfl, hX', hY', hC⟩
  have hwr' := hwr (w' := w') (l := lsub q ls[i] ls[t]) (by simp [lsub]) (by simp [lsub])
  rw [eai] at hwr'
  refine ⟨rfl, hwr' hX' hY' hC, hC.ext hE0 ?_, hC⟩
  rintro k (rfl | rfl)
  · exact hX.lt.1
  · exact hY.lt.1
set_option maxRecDepth 100000 in
theorem less_linesH {w0 w : World} {g n m i t E gx cx gy cy gxt cxt gyt cyt : Nat} {q : Int} {ad : List Ad} {ls : List Ln} (hLn : Lns w0.heap.size w g ad ls) (hd : Dim n m ls) (hi : i < ls.length) (ht : t < ls.length) (hne : i ≠ t)
    (hn : n ≤ 1000000) (hm : m ≤ 1000000) (hai : ad[i]? = some ⟨gx, cx, gy, cy⟩) (hat : ad[t]? = some ⟨gxt, cxt, gyt, cyt⟩)
    (hA : All (fun z => z.natAbs < 2 ^ E) (ls.getD i default)) (hB : All (fun z => z.natAbs < 2 ^ E) (ls.getD t default)) (hq : q.natAbs < 2 ^ E) (hE : 2 * E + 2 < LIM) (hL : Laid w0) (hE0 : Ext w0 w) :
    Calls Tryz.prog 104 #[.agg #[slv gx n cx, slv gy m cy], I q, .agg #[slv gxt n cxt, slv gyt m cyt]] w fun e w' =>
      e = .returned (.tuple #[]) ∧ Lns w0.heap.size w' g ad (ls.set i (lsub q (ls.getD i default) (ls.getD t default))) ∧ Ext w0 w' :=
  (less_linesC hLn hd hi ht hne hn hm hai hat hA hB hq hE hL hE0).mono fun _ _ h => ⟨h.1, h.2.1, h.2.2.1⟩
theorem turn_linesC {w0 w : World} {g n m i E gx cx gy cy : Nat} {ad : List Ad} {ls : List Ln} (hLn : Lns w0.heap.size w g ad ls) (hd : Dim n m ls) (hi : i < ls.length)
    (hn : n ≤ 1000000) (hm : m ≤ 1000000) (hai : ad[i]? = some ⟨gx, cx, gy, cy⟩) (hA : All (fun z => z.natAbs < 2 ^ E) (ls.getD i default)) (hE : 2 * E + 2 < LIM) (hE0 : Ext w0 w) :
    Calls Tryz.prog 102 #[.agg #[slv gx n cx, slv gy m cy]] w fun e w' =>
      e = .returned (.tuple #[]) ∧ Lns w0.heap.size w' g ad (ls.set i (lneg (ls.getD i default))) ∧ Ext w0 w' ∧ Chg (fun k => k = gx ∨ k = gy) w w' := by
  have hai' : i < ad.length := by rw [hLn.len]; exact hi
  rw [List.getElem?_eq_getElem hai'] at hai
  have eai := Option.some.inj hai
  have hX := hLn.x i hi hai'
  have hY := hLn.y i hi hai'
  have hoi := hLn.own i hai'
  have li := hd.get hi
  rw [getD_get hi] at hA
  rw [getD_get hi]
  have hwr := fun {w' : World} {l : Ln} (e1 : l.1.length = ls[i].1.length) (e2 : l.2.length = ls[i].2.length) (a : OwnV 80 w0.heap.size w' ad[i].gx ad[i].cx (ss l.1)) (b : OwnV 80 w0.heap.size w' ad[i].gy ad[i].cy (ss l.2)) (c : Chg (fun k => k = ad[i].gx ∨ k = ad[i].gy) w w') => hLn.wrote hai' hi e1 e2 a b c
  rw [eai] at hX hY hoi
  simp only at hX hY hoi
  have h := turn_any (w0 := w0) (w := w) (gx := gx) (cx := cx) (gy := gy) (cy := cy) hX hY hoi.2.2 (by rw [li.1]; exact hn) (by rw [li.2]; exact hm)
    (fun z hz => by have := nd_lt2 (hA.1 z hz); omega) (fun z hz => by have := nd_lt2 (hA.2 z hz); omega)
  rw [li.1, li.2] at h
  refine h.mono ?_
  rintro e w' ⟨rfl, hX', hY', hC⟩
  have hwr' := hwr (w' := w') (l := lneg ls[i]) (by simp [lneg]) (by simp [lneg])
  rw [eai] at hwr'
  refine ⟨rfl, hwr' hX' hY' hC, hC.ext hE0 ?_, hC⟩
  rintro k (rfl | rfl)
  · exact hX.lt.1
  · exact hY.lt.1
end Go.Proofs.YtkjnjmihfonilaaGreatDoor
namespace Go.Proofs.YtkjnjmihfonilaaGreatDoor
open Go.RowKit Go.Sort
def SwPost (w0 : World) (g c d N k : Nat) (ls : List Ln) (e : Ending) (w' : World) : Prop :=
  ∃ r ad' ls', e = .returned (.bool r) ∧ Lns w0.heap.size w' g ad' ls' ∧ SwR c d N k ls ls' r ∧ Ext w0 w'
set_option maxRecDepth 100000 in
set_option maxHeartbeats 1000000 in
theorem sweep_walk {w0 w : World} {g cp n m d c N k : Nat} {ad : List Ad} {ls : List Ln}
    (hN : ls.length = d + N) (hNl : ls.length ≤ 1000000) (hcp : N ≤ cp) (hcn : c < n) (hn : n ≤ 1000000) (hm : m ≤ 1000000)
    (hLn : Lns w0.heap.size w g ad ls) (hdim : Dim n m ls) (hA : ∀ t, t < N → All (fun z => z.natAbs < 2 ^ k) (ls.getD (d + t) default)) (hk : 2 * (k * (N + 2) + 2) + 2 < LIM) (hL : Laid w0) (hE : Ext w0 w) :
    Calls Tryz.prog 101 #[.slice (some ⟨g, 2 * d, none⟩) N cp, .int .i64 c] w (SwPost w0 g c d N k ls) := by
  have HL := Lib.hid hL
  have Hk := Lib.hid hk
  have HN := Lib.hid hN
  have hNb : N ≤ 1000000 := by omega
  clear hk hL hN
  go_enter Tryz.func101, Tryz.ntmps101
  go_wp2_with fail
  go_loopg [] (sm (cols c d ls) N) (fun k' wr => ∃ ad1 ls1, Lns w0.heap.size wr g ad1 ls1 ∧ Ext w0 wr ∧ Hid (k' = sm (cols c d ls1) N ∧ GG c d N k ls1 ∧ Ops d ls ls1))
  case atStart => exact ⟨ad, ls, hLn, hE, rfl, .inl hA, .refl _⟩
  case round =>
    obtain ⟨ad1, ls1, hL1, hE1, hK⟩ := hrel
    have hN1 := Lib.hid (show ls1.length = d + N by rw [hK.out.2.2.length]; exact HN.out)
    have hd1 := hdim.ops hK.out.2.2
    have hlt1 := Lib.hid hK.out.2.1.lt
    generalize wr = V at *
    go_wp2_with fail
    go_loopw [5, 6, 16] (fun be re idx wr => ∃ (i : Nat) (b : Int), i ≤ N ∧ idx = .int .i64 i ∧ be = .int .i64 b ∧ re = .int .i64 (cntNZ (cols c d ls1) i : Nat) ∧ Hid (BestR (cols c d ls1) i b) ∧ Ext V wr) (fun _ _ idx _ => N - (intOf idx).toNat)
    case atStart => exact ⟨0, -1, by omega, by go_num, by go_num, by go_num, .inl ⟨rfl, fun t h => by omega⟩, Ext.refl _⟩
    case round =>
      obtain ⟨i, b, hi, rfl, rfl, rfl, hB, hEV⟩ := hrel
      by_cases hlt : i < N
      · have hii : (i : Int) < (N : Int) := by omega
        obtain ⟨gx, cx, gy, cy, ead, c1, c2, cz, o1, o2, _, _, _⟩ := (hL1.ext hEV).ln (c := c) (i := i) (o := 2 * d + i * 2) hd1 (by rw [hN1.out]; omega) rfl hcn
        obtain ⟨z, hz⟩ : ∃ z, z = cols c d ls1 i := ⟨_, rfl⟩
        have hzE := hlt1.out i hlt
        have hzE2 : nd z ≤ k * (N + 2) + 3 := by rw [hz]; exact nd_lt2 (hzE.col (Q := fun z => z.natAbs < 2 ^ (k * (N + 2) + 2)) (Nat.pow_pos (by omega)) c)
        have Hz2 := Lib.hid hzE2
        rw [← hz] at cz
        have hitz : (Lib.itoa z == [48]) = decide (z = 0) := itoa_eq_zero z
        have Hz := Lib.hid hz
        have lgx := o1.lt.2
        have lgy := o2.lt.2
        have hcl := cntNZ_le (cols c d ls1) i
        have hcs : z ≠ 0 → cntNZ (cols c d ls1) (i + 1) = cntNZ (cols c d ls1) i + 1 := fun h => by rw [cntNZ, if_neg (by rw [← Hz.out]; exact h)]
        have Hcs := Lib.hid hcs
        clear hz o1 o2 ead hzE hzE2 hcs
        by_cases hz0 : z = 0
        · rw [decide_eq_true hz0] at hitz
          have Hz0 := Lib.hid hz0
          clear hz0
          go_wp2_with fail
          go_roundw
          case rel => exact ⟨i + 1, b, by omega, by go_num, rfl, by rw [cntNZ, ← Hz.out, if_pos Hz0.out]; rfl, best_zero hB.out (by rw [← Hz.out]; exact Hz0.out), hEV.alloc _⟩
          case measure => simp [intOf] <;> omega
        · rw [decide_eq_false hz0] at hitz
          have Hz0 := Lib.hid hz0
          clear hz0
          rcases hB.out with ⟨hbm, hall⟩ | ⟨p, hp, hbp, hpz, hmin⟩
          · subst hbm
            have Hall := Lib.hid hall
            clear hall hB
            go_wp2_with fail
            go_quiet (fail)
            go_wp2_with fail
            go_roundw
            case rel => exact ⟨i + 1, i, by omega, by go_num, rfl, by rw [Hcs.out Hz0.out]; go_num, best_first Hall.out (by rw [← Hz.out]; exact Hz0.out), (hEV.alloc _).drewN _⟩
            case measure => simp [intOf] <;> omega
          · subst hbp
            have Hpz := Lib.hid hpz
            have hpN : p < N := by omega
            have hpi : (p : Int) < (N : Int) := by omega
            have hp0 : ¬ (p : Int) < 0 := by omega
            have hpd : decide ((p : Int) < 0) = false := decide_eq_false hp0
            have Hmin := Lib.hid hmin
            obtain ⟨gxp, cxp, gyp, cyp, eadp, c1p, c2p, cy', o1p, o2p, _, _, _⟩ := (hL1.ext hEV).ln (c := c) (i := p) (o := 2 * d + p * 2) hd1 (by rw [hN1.out]; omega) rfl hcn
            obtain ⟨y, hy⟩ : ∃ y, y = cols c d ls1 p := ⟨_, rfl⟩
            have hyE := hlt1.out p hpN
            have hyE2 : nd y ≤ k * (N + 2) + 3 := by rw [hy]; exact nd_lt2 (hyE.col (Q := fun z => z.natAbs < 2 ^ (k * (N + 2) + 2)) (Nat.pow_pos (by omega)) c)
            rw [← hy] at cy'
            have lgxp := o1p.lt.2
            have Hy := Lib.hid hy
            have hzl : nd z ≤ LIM := by have := Hk.out; have := Hz2.out; omega
            have hyl : nd y ≤ LIM := by have := Hk.out; omega
            have hzl' : nd (z.natAbs : Int) ≤ LIM := by unfold nd at *; rw [Int.natAbs_natCast]; exact hzl
            have hyl' : nd (y.natAbs : Int) ≤ LIM := by unfold nd at *; rw [Int.natAbs_natCast]; exact hyl
            obtain ⟨W0, hW0⟩ : ∃ W0, W0 = wr.alloc (.cells #[slv gx n cx, slv gy m cy] 106) := ⟨_, rfl⟩
            have hEW := (Ext.refl wr).alloc (.cells #[slv gx n cx, slv gy m cy] 106)
            have bA := Lib.hid (fun (t : Int) (ht : nd t ≤ LIM) => quietC (w := wr.alloc (.cells #[slv gx n cx, slv gy m cy] 106)) (fun W h => (Abs_any (z := t) ht W)))
            have Hzl := Lib.hid hzl
            have Hyl := Lib.hid hyl
            have k1 := cell_regrown (hEW.cell cy')
            have k2 := cell_regrown (hEW.cell cz)
            have k3 := cell_regrown (hEW.cell c1p)
            have k4 := cell_regrown (show (wr.alloc (.cells #[slv gx n cx, slv gy m cy] 106)).cell? ⟨wr.heap.size, 0, none⟩ = some (slv gx n cx) by go_simp)
            have b3 := Lib.hid (quietC (w := wr.alloc (.cells #[slv gx n cx, slv gy m cy] 106)) (fun W h => (Compare_any (a := (z.natAbs : Int)) (b := (y.natAbs : Int)) hzl' hyl' W)))
            have Hcmp := Lib.hid (show cmpZ z.natAbs y.natAbs < 0 ↔ z.natAbs < y.natAbs by unfold cmpZ; split <;> (try split) <;> omega)
            obtain ⟨q, hq⟩ : ∃ q, q = cmpZ z.natAbs y.natAbs := ⟨_, rfl⟩
            rw [← hq] at b3 Hcmp
            have hEW' := hEW
            clear hpz hmin hy hB o1p o2p eadp c2p hEW hW0 W0 hyE hyE2 hzl hyl hzl' hyl' hq
            rcases Decidable.em (z.natAbs < y.natAbs) with hzy | hzy
            · have hq0 : q < 0 := Hcmp.out.2 hzy
              have hqd : decide (q < 0) = true := decide_eq_true hq0
              go_wp2_with fail
              refine wp_region_quiet_below (by kernel_rfl) (by kernel_rfl) ?_
              repeat (quiet_step (first | (refine bA.out _ ?_ _ _; first | exact Hzl.out | exact Hyl.out) | exact b3.out _ _))
              refine wpQuiet_nil ?_
              intro _ hw'
              obtain ⟨⟨dq, osq⟩, hw''⟩ := hw'
              subst hw''
              have hE5 := (hEV.trans hEW').trans (ext_regrown _ dq osq)
              clear bA b3 k1 k2 k3 k4
              go_wp2_with fail
              go_roundw
              case rel => exact ⟨i + 1, i, by omega, by go_num, rfl, by rw [Hcs.out Hz0.out]; go_num, best_less (p := p) Hmin.out (by rw [← Hz.out]; exact Hz0.out) (by rw [← Hz.out, ← Hy.out]; exact hzy), hE5⟩
              case measure => simp [intOf] <;> omega
            · have hq0 : 0 ≤ q := by have := mt Hcmp.out.1 hzy; omega
              have hqd : decide (q < 0) = false := decide_eq_false (by omega)
              go_wp2_with fail
              refine wp_region_quiet_below (by kernel_rfl) (by kernel_rfl) ?_
              repeat (quiet_step (first | (refine bA.out _ ?_ _ _; first | exact Hzl.out | exact Hyl.out) | exact b3.out _ _))
              refine wpQuiet_nil ?_
              intro _ hw'
              obtain ⟨⟨dq, osq⟩, hw''⟩ := hw'
              subst hw''
              have hE5 := (hEV.trans hEW').trans (ext_regrown _ dq osq)
              clear bA b3 k1 k2 k3 k4
              go_wp2_with fail
              go_roundw
              case rel => exact ⟨i + 1, p, by omega, by go_num, rfl, by rw [Hcs.out Hz0.out]; go_num, best_keep hp Hpz.out Hmin.out (by rw [← Hz.out, ← Hy.out]; omega), hE5⟩
              case measure => simp [intOf] <;> omega
      · have hiN : i = N := by omega
        subst hiN
        rcases hB.out with ⟨hbm, hall⟩ | ⟨p, hp, hbp, hpz, hmin⟩
        · subst hbm
          have Hall := Lib.hid hall
          clear hall
          go_wp2_with fail
          go_ret
          exact ⟨false, ad1, ls1, rfl, hL1.ext hEV, swr_no hK.out.2.2 hK.out.2.1 Hall.out, hE1.trans hEV⟩
        · subst hbp
          have Hpz := Lib.hid hpz
          have Hmin := Lib.hid hmin
          have hpi : (p : Int) < (i : Int) := by omega
          obtain ⟨gxp, cxp, gyp, cyp, eadp, c1p, c2p, cyp', o1p, o2p, _, _, _⟩ := (hL1.ext hEV).ln (c := c) (i := p) (o := 2 * d + p * 2) hd1 (by rw [hN1.out]; omega) rfl hcn
          obtain ⟨gx, cx, gy, cy, ead, c1, c2, cz, o1, o2, _, _, _⟩ := (hL1.ext hEV).ln (c := c) (i := 0) (o := 2 * d) hd1 (by rw [hN1.out]; omega) rfl hcn
          have fz := (hL1.ext hEV).fz
          have hi0 : 0 < i := by omega
          clear hpz hmin o1 o2 o1p o2p ead eadp cz cyp' hB
          rcases Nat.eq_zero_or_pos p with hp0 | hp0
          focus
            subst hp0
            rw [show ((0 : Nat) : Int) = 0 from rfl]
            rw [show 2 * d + 0 * 2 = 2 * d by omega] at *
            clear c1p c2p
            go_wp2_with fail
            go_region
            have hS := (hL1.ext hEV).swap0 (by rw [hN1.out]; omega) c1 c2
            have hLs := hS.1.ext ((Ext.refl _).drew)
            have hEs := (ext_trans_grown (hE1.trans hEV) hS.2 hL1.base).drew
            have hpp : 0 < i := hi0
            obtain ⟨p, hp0⟩ : ∃ p, p = 0 := ⟨_, rfl⟩
            rw [← hp0] at hLs Hpz Hmin hpp
            generalize hW5 : World.drew (World.setCell _ _ _) = W5 at *
            clear hS c1 c2 hp0
          rotate_left
          focus
            obtain ⟨o, ho⟩ : ∃ o, 2 * d + p * 2 = o := ⟨_, rfl⟩
            rw [ho] at c1p c2p
            have d1 : o ≠ 2 * d := by omega
            have d2 : o ≠ 2 * d + 1 := by omega
            have d3 : o + 1 ≠ 2 * d := by omega
            have d4 : o + 1 ≠ 2 * d + 1 := by omega
            go_wp2_with fail
            go_region
            have hS := (hL1.ext hEV).swap4 (p := p) hp0 (by rw [hN1.out]; omega) ho c1 c2 c1p c2p
            have hLs := hS.1.ext ((Ext.refl _).drew)
            have hEs := (ext_trans_grown (hE1.trans hEV) hS.2 hL1.base).drew
            have hpp : p < i := hp
            generalize hW5 : World.drew (World.setCell _ _ _) = W5 at *
            clear hS c1 c2 c1p c2p d1 d2 d3 d4 ho
          all_goals
            clear hW5
            generalize hcn : cntNZ (cols c d ls1) i = cn at *
            have Hcn := Lib.hid hcn
            clear hcn
            by_cases hc1 : cn = 1
            · subst hc1
              go_wp2_with fail
              go_ret
              exact ⟨true, _, _, rfl, hLs, swr_yes hK.out.2.2 hN1.out hK.out.2.1 hpp Hpz.out Hcn.out, hEs⟩
            · have hcb : ((cn : Int) == 1) = false := beq_eq_false_iff_ne.2 (by omega)
              have hcnt : cntNZ (cols c d ls1) i ≠ 1 := by rw [Hcn.out]; exact hc1
              have hi2 : 2 ≤ i := by
                obtain ⟨s, hs, hsp, _⟩ := cnt_other hcnt Hpz.out hpp
                omega
              have hcp2 : 2 ≤ cp := by omega
              have Hless := Lib.hid (sw_less hN1.out hd1 hpp Hpz.out Hmin.out hcnt)
              have HG2 := Lib.hid (hK.out.2.1.swp hN1.out hpp)
              have hd2 : Dim n m (swp ls1 d (d + p)) := hd1.step (swp_step (d := d) ls1 (by rw [hN1.out]; omega) (by rw [hN1.out]; omega) (by omega) (by omega))
              have HN2 := Lib.hid (show (swp ls1 d (d + p)).length = d + i by rw [swp_length]; exact hN1.out)
              have Hz2 := Lib.hid (show cols c d (swp ls1 d (d + p)) 0 ≠ 0 by rw [swp_zero hN1.out hpp]; exact Hpz.out)
              have Hm2 := Lib.hid (swp_best hN1.out hpp Hmin.out)
              have HO2 := Lib.hid (Ops.step hK.out.2.2 (swp_step (d := d) (i := d) (j := d + p) ls1 (by rw [hN1.out]; omega) (by rw [hN1.out]; omega) (by omega) (by omega)))
              generalize swp ls1 d (d + p) = ls2 at *
              generalize swpA ad1 d (d + p) = ad2 at *
              have HG3 := Lib.hid (HG2.out.red HN2.out hd2 Hz2.out Hm2.out)
              have hR : ∀ j, j ≤ i - 1 → ∀ t, t < i → All (fun z => z.natAbs < 2 ^ (k * (i + 2) + 2)) ((redTo c d j ls2).getD (d + t) default) := fun j hj t ht => by
                have h1 := HG2.out.lt t ht
                have h2 := HG3.out.lt t ht
                rw [redTo_getD c d _ (by rw [HN2.out]; omega)] at h2 ⊢
                by_cases htj : d < d + t ∧ d + t ≤ d + j
                · rw [if_pos htj]; rw [if_pos (by omega)] at h2; exact h2
                · rw [if_neg htj]; exact h1
              have HR := Lib.hid hR
              have hi1 : i - 1 ≤ i := by omega
              clear hc1 hcnt hR
              go_wp2_with fail
              go_loopw [71] (fun idx wr => ∃ j : Nat, j ≤ i - 1 ∧ idx = .int .i64 j ∧ Lns w0.heap.size wr g ad2 (redTo c d j ls2) ∧ Ext w0 wr) (fun idx _ => (i - 1) - (intOf idx).toNat)
              case atStart => exact ⟨0, by omega, by go_num, by rw [redTo_zero]; exact hLs, hEs⟩
              case round =>
                obtain ⟨j, hj, rfl, hL3, hE3⟩ := hrel
                generalize wr = X at *
                by_cases hjl : j < i - 1
                · have hji : (j : Int) < ((i - 1 : Nat) : Int) := by omega
                  have hO3 := redTo_ops c d ls2 j (by rw [HN2.out]; omega)
                  have hd3 := hd2.ops hO3
                  have HN3 := Lib.hid (show (redTo c d j ls2).length = d + i by rw [redTo_length]; exact HN2.out)
                  obtain ⟨gx, cx, gy, cy, ead, c1, c2, cz, o1, o2, _, _, _⟩ := hL3.ln (d := d) (c := c) (i := j + 1) (o := 2 * d + 2 + j * 2) hd3 (by rw [HN3.out]; omega) (by omega) hcn
                  obtain ⟨gxt, cxt, gyt, cyt, eadt, c1t, c2t, ct, o1t, o2t, _, _, _⟩ := hL3.ln (d := d) (c := c) (i := 0) (o := 2 * d) hd3 (by rw [HN3.out]; omega) (by omega) hcn
                  have lgx := o1.lt.2
                  have lgy := o2.lt.2
                  have lgxt := o1t.lt.2
                  have lgyt := o2t.lt.2
                  obtain ⟨z, hz⟩ : ∃ z, z = cols c d (redTo c d j ls2) (j + 1) := ⟨_, rfl⟩
                  obtain ⟨y, hy⟩ : ∃ y, y = cols c d (redTo c d j ls2) 0 := ⟨_, rfl⟩
                  rw [← hz] at cz
                  rw [← hy] at ct
                  have hy0 : y ≠ 0 := by
                    rw [hy]; unfold cols; rw [redTo_getD c d _ (by rw [HN2.out]; omega), if_neg (by omega)]; exact Hz2.out
                  have hA1 := HR.out j hj (j + 1) (by omega)
                  have hA0 := HR.out j hj 0 (by omega)
                  have hzE : z.natAbs < 2 ^ (k * (i + 2) + 2) := by rw [hz]; exact hA1.col (Q := fun z => z.natAbs < 2 ^ (k * (i + 2) + 2)) (Nat.pow_pos (by omega)) c
                  have hyE : y.natAbs < 2 ^ (k * (i + 2) + 2) := by rw [hy]; exact hA0.col (Q := fun z => z.natAbs < 2 ^ (k * (i + 2) + 2)) (Nat.pow_pos (by omega)) c
                  have hqE : (z.fdiv y).natAbs < 2 ^ (k * (i + 2) + 2) := Nat.lt_of_le_of_lt (fdiv_abs z hy0) hzE
                  have hstep := redTo_stepD c d j ls2 (by rw [HN2.out]; omega)
                  rw [← hz, ← hy] at hstep
                  have Hy := Lib.hid hy
                  have Hz := Lib.hid hz
                  have Hzl : Hid (nd z < LIM) := by have := nd_lt2 hzE; have := Hk.out; exact Lib.hid (by omega)
                  have Hyl : Hid (nd y < LIM) := by have := nd_lt2 hyE; have := Hk.out; exact Lib.hid (by omega)
                  have Hl := Lib.hid (fun W (hW : Ext X W) => less_linesH (w0 := w0) (w := W) (i := d + (j + 1)) (t := d + 0) (hL3.ext hW) hd3 (by rw [HN3.out]; omega) (by rw [HN3.out]; omega) (by omega) hn hm ead eadt hA1 hA0 hqE (by have := Hk.out; omega) HL.out (hE3.trans hW))
                  have Hstep := Lib.hid hstep
                  have Hy0 := Lib.hid hy0
                  clear hy hz ead eadt o1 o2 o1t o2t hA1 hA0 hzE hyE hqE hstep
                  have hEW := (Ext.refl X).alloc (.cells #[slv gx n cx, slv gy m cy] 106)
                  have hW5 : Ext X (X.alloc (.cells #[slv gx n cx, slv gy m cy] 106)) := hEW
                  have k1 := cell_regrown (hEW.cell cz)
                  have k2 := cell_regrown (hEW.cell ct)
                  have k3 := cell_regrown (hEW.cell c1t)
                  have k5 := cell_regrown (hEW.cell c2t)
                  have k4 := cell_regrown (show (X.alloc (.cells #[slv gx n cx, slv gy m cy] 106)).cell? ⟨X.heap.size, 0, none⟩ = some (slv gx n cx) by go_simp)
                  have k6 := cell_regrown (show (X.alloc (.cells #[slv gx n cx, slv gy m cy] 106)).cell? ⟨X.heap.size, 1, none⟩ = some (slv gy m cy) by go_simp)
                  have bD := Lib.hid (quietC (w := X.alloc (.cells #[slv gx n cx, slv gy m cy] 106)) (fun W h => DivMod_any (a := z) (b := y) (w := W) Hzl.out Hyl.out Hy0.out (HL.out.ext (hE3.trans (hW5.trans h)))))
                  clear hEW
                  go_wp2_with fail
                  refine wp_region_quiet_below (by kernel_rfl) (by kernel_rfl) ?_
                  repeat (quiet_step (exact bD.out _ _))
                  refine wpQuiet_nil ?_
                  intro _ hw'
                  obtain ⟨⟨dq, osq⟩, hw''⟩ := hw'
                  subst hw''
                  have hE6 := hW5.trans (ext_regrown _ dq osq)
                  have m4 := k4 dq osq
                  have m6 := k6 dq osq
                  clear bD k1 k2 k3 k4 k5 k6
                  generalize hW6 : grow (redrawn _ _) _ = W6 at *
                  have n1 := cell_regrown (hE6.cell c1t)
                  have n2 := cell_regrown (hE6.cell c2t)
                  have n3 := cell_regrown m4
                  have n4 := cell_regrown m6
                  clear hW6 m4 m6
                  go_wp2_with fail
                  refine wp_region_quiet_tail 5 (by kernel_rfl) (by kernel_rfl) ?_
                  simp only [List.take_succ_cons, List.take_zero, List.drop_succ_cons, List.drop_zero]
                  repeat (quiet_step (fail))
                  refine wpQuiet_nil ?_
                  intro _ hw'
                  obtain ⟨⟨dq, osq⟩, hw''⟩ := hw'
                  subst hw''
                  have hE7 := hE6.trans (ext_regrown _ dq osq)
                  clear n1 n2 n3 n4
                  generalize hW7 : grow (redrawn _ _) _ = W7 at *
                  clear hW7
                  go_wp2_with fail
                  refine (Hl.out _ hE7).mono ?_
                  rintro e W8 ⟨rfl, hL8, hE8⟩
                  rw [← Hstep.out] at hL8
                  go_wp2_with fail
                  go_roundw
                  case rel => exact ⟨j + 1, by omega, by go_num, hL8, hE8⟩
                  case measure => simp [intOf] <;> omega
                · go_wp2_with fail
                  go_roundg (sm (cols c d (redTo c d (i - 1) ls2)) i)
                  case measure => rw [hK.out.1]; exact Hless.out
                  case rel =>
                    have hje : j = i - 1 := by omega
                    subst hje
                    exact ⟨ad2, _, hL3, hE3, Lib.hid ⟨rfl, HG3.out, HO2.out.trans (redTo_ops c d ls2 (i - 1) (by rw [HN2.out]; omega))⟩⟩
end Go.Proofs.YtkjnjmihfonilaaGreatDoor
namespace Go.Proofs.YtkjnjmihfonilaaGreatDoor
open Go.RowKit Go.Sort
set_option maxRecDepth 100000 in
theorem sweep_empty {ga : Option Addr} {cp : Nat} {c : Nat} {w : World} : Calls Tryz.prog 101 #[.slice ga 0 cp, .int .i64 c] w fun e w' => e = .returned (.bool false) ∧ w' = w := by
  go_enter Tryz.func101, Tryz.ntmps101
  go_wp2_with fail
  go_loopg [] 0 (fun _ wr => wr = w)
  case atStart => rfl
  case round =>
    obtain rfl := hrel
    go_wp2_with fail
    go_loop [5, 16] (fun be idx => idx = .int .i64 0 ∧ be = .int .i64 (-1)) (fun _ _ => 0)
    case atStart => exact ⟨rfl, rfl⟩
    case round =>
      obtain ⟨rfl, rfl⟩ := hrel
      go_wp2_with fail
      go_ret
      exact ⟨rfl, rfl⟩
theorem sweep_at {w0 w : World} {g o cp n m d c N k : Nat} {ad : List Ad} {ls : List Ln} (ho : o = 2 * d)
    (hN : ls.length = d + N) (hNl : ls.length ≤ 1000000) (hcp : N ≤ cp) (hcn : c < n) (hn : n ≤ 1000000) (hm : m ≤ 1000000)
    (hLn : Lns w0.heap.size w g ad ls) (hdim : Dim n m ls) (hA : AllL k ls) (hk : 2 * (k * (N + 2) + 2) + 2 < LIM) (hL : Laid w0) (hE : Ext w0 w) :
    Calls Tryz.prog 101 #[.slice (some ⟨g, o, none⟩) N cp, .int .i64 c] w (SwPost w0 g c d N k ls) := by
  subst ho
  exact sweep_walk hN hNl hcp hcn hn hm hLn hdim (fun t ht => hA (d + t) (by omega)) hk hL hE
def EchPost (w0 : World) (g n L k : Nat) (ls : List Ln) (e : Ending) (w' : World) : Prop :=
  ∃ d ps ad' ls', e = .returned (.int .i64 (d : Nat)) ∧ Lns w0.heap.size w' g ad' ls' ∧ FormTo n d ps ls' ∧ Ops 0 ls ls' ∧ AllL (bC L k n) ls' ∧ Ext w0 w'
set_option maxRecDepth 100000 in
set_option maxHeartbeats 1000000 in
theorem echelon_walk {w0 w : World} {g cp n m L k : Nat} {ad : List Ad} {ls : List Ln}
    (hN : ls.length = L) (hNl : L ≤ 1000000) (hcp : L ≤ cp) (hn : n ≤ 1000000) (hm : m ≤ 1000000)
    (hLn : Lns w0.heap.size w g ad ls) (hdim : Dim n m ls) (hA : AllL k ls) (hk : bC L k n + 2 < LIM) (hL : Laid w0) (hE : Ext w0 w) :
    Calls Tryz.prog 59 #[.slice (some ⟨g, 0, none⟩) L cp, .int .i64 n] w (EchPost w0 g n L k ls) := by
  have HL := Lib.hid hL
  have Hk := Lib.hid hk
  have HN := Lib.hid hN
  clear hk hL hN
  go_enter Tryz.func59, Tryz.ntmps59
  go_wp2_with fail
  go_loopw [5, 14] (fun dn idx wr => ∃ (c d : Nat) (ps : List Nat) (ad1 : List Ad) (ls1 : List Ln), c ≤ n ∧ d ≤ L ∧ idx = .int .i64 c ∧ dn = .int .i64 d ∧ Lns w0.heap.size wr g ad1 ls1 ∧ Ext w0 wr ∧ Hid (FormTo c d ps ls1 ∧ Ops 0 ls ls1 ∧ AllL (bC L k c) ls1)) (fun _ idx _ => n - (intOf idx).toNat)
  case atStart => exact ⟨0, 0, [], ad, ls, by omega, by omega, by go_num, by go_num, hLn, hE, Lib.hid ⟨FormTo.start ls, .refl _, hA⟩⟩
  case round =>
    obtain ⟨c, d, ps, ad1, ls1, hc, hdL, rfl, rfl, hL1, hE1, hK⟩ := hrel
    generalize wr = V at *
    by_cases hlt : c < n
    · have hci : (c : Int) < (n : Int) := by omega
      have hdi : (d : Int) ≤ (L : Int) := by omega
      have hdc : (d : Int) ≤ (cp : Int) := by omega
      have hbn := bC_next (L := L) (N := L - d) (k := k) (c := c) (by omega)
      have hbm := bC_mono L k (c + 1) (n - (c + 1))
      rw [show c + 1 + (n - (c + 1)) = n by omega] at hbm
      have Hbn := Lib.hid hbn
      have Hbm := Lib.hid hbm
      have hd1 := hdim.ops hK.out.2.1
      have HN1 := Lib.hid (show ls1.length = d + (L - d) by rw [hK.out.2.1.length, HN.out]; omega)
      clear hbn hbm
      by_cases hdL2 : d < L
      · have hsw := Lib.hid (sweep_at (w0 := w0) (w := V) (g := g) (o := d * 2) (cp := cp - d) (n := n) (m := m) (d := d) (c := c) (N := L - d) (k := bC L k c) (ad := ad1) (ls := ls1) (Nat.mul_comm d 2) HN1.out (by have := HN1.out; omega) (by omega) hlt hn hm hL1 hd1 hK.out.2.2 (by have := Hbn.out; have := Hbm.out; have := Hk.out; omega) HL.out hE1)
        go_wp2_with fail
        refine hsw.out.mono ?_
        rintro e V2 ⟨r, ad2, ls2, rfl, hL2, hSW, hE2⟩
        have HSW := Lib.hid hSW
        clear hsw hSW
        cases r
        · go_wp2_with fail
          go_roundw
          case rel => exact ⟨c + 1, d, ps, ad2, ls2, by omega, by omega, by go_num, rfl, hL2, hE2, Lib.hid ⟨hK.out.1.skip hd1 HN1.out HSW.out, hK.out.2.1.trans (HSW.out.ops.mono (by omega)), (HSW.out.all HN1.out hK.out.2.2).mono (by have := Hbn.out; omega)⟩⟩
          case measure => simp [intOf] <;> omega
        · have hd2 := hd1.ops HSW.out.ops
          have HN2 := Lib.hid (show ls2.length = L by rw [HSW.out.ops.length, HN1.out]; omega)
          obtain ⟨gx, cx, gy, cy, ead, c1, c2, cz, o1, o2, _, _, _⟩ := hL2.ln (d := d) (c := c) (i := 0) (o := d * 2) hd2 (by rw [HN2.out]; omega) (by omega) hlt
          obtain ⟨z, hz⟩ : ∃ z, z = cols c d ls2 0 := ⟨_, rfl⟩
          rw [← hz] at cz
          have Hz := Lib.hid hz
          have lgx := o1.lt.2
          have lgy := o2.lt.2
          have Ead := Lib.hid ead
          have HA2 := Lib.hid (HSW.out.all HN1.out hK.out.2.2)
          have HE2 := Lib.hid (show 2 * (bC L k c * (L - d + 2) + 2) + 2 < LIM by have := Hbn.out; have := Hbm.out; have := Hk.out; omega)
          have HZ := Lib.hid ((HSW.out.yes rfl).2.1)
          have hz0 : z ≠ 0 := by rw [hz]; exact HZ.out
          have hgT : ∀ i (h : i < ad2.length), ad2[i].gx < V2.heap.size ∧ ad2[i].gy < V2.heap.size := fun i h => ⟨(hL2.x i (by rw [← hL2.len]; exact h) h).lt.2, (hL2.y i (by rw [← hL2.len]; exact h) h).lt.2⟩
          have HgT := Lib.hid hgT
          have hW1 := (Ext.refl V2).alloc (.cells #[slv gx n cx, slv gy m cy] 106)
          have HS := Lib.hid (Sign_any z)
          have HT := Lib.hid (fun W (hW : Ext V2 W) => turn_linesC (w0 := w0) (w := W) (i := d + 0) (hL2.ext hW) hd2 (by rw [HN2.out]; omega) hn hm ead (HA2.out (d + 0) (by rw [HN2.out]; omega)) HE2.out (hE2.trans hW))
          clear o1 o2 ead hz hgT
          have t1 := show (V2.alloc (.cells #[slv gx n cx, slv gy m cy] 106)).cell? ⟨V2.heap.size, 0, none⟩ = some (slv gx n cx) by go_simp
          have t2 := show (V2.alloc (.cells #[slv gx n cx, slv gy m cy] 106)).cell? ⟨V2.heap.size, 1, none⟩ = some (slv gy m cy) by go_simp
          rcases Int.lt_or_gt_of_ne hz0 with hz1 | hz1
          focus
            have hs1 : z.sign = -1 := Int.sign_eq_neg_one_of_neg hz1
            have hP := Lib.hid (show ls2.set (d + 0) (lneg (ls2.getD (d + 0) default)) = posAt c d ls2 by unfold posAt; rw [if_pos (by show cols c d ls2 0 < 0; rw [← Hz.out]; exact hz1)]; rfl)
            rw [hs1] at HS
            clear hs1 hz1 hz0
            go_wp2_with fail
            refine (HS.out _).mono ?_
            rintro e W3 ⟨rfl, hE3⟩
            replace t1 := hE3.cell t1
            replace t2 := hE3.cell t2
            go_wp2_with fail
            refine (HT.out _ (hW1.trans hE3)).mono ?_
            rintro e W4 ⟨rfl, hL4, hE4, hC4⟩
            replace t1 := hC4.cell (by omega) t1
            replace t2 := hC4.cell (by omega) t2
            rw [hP.out] at hL4
            clear hC4 hE3 hW1 HT HS
            go_wp2_with fail
          rotate_left
          focus
            have hs1 : z.sign = 1 := Int.sign_eq_one_of_pos hz1
            have hP := Lib.hid (show ls2 = posAt c d ls2 by unfold posAt; rw [if_neg (by show ¬ cols c d ls2 0 < 0; rw [← Hz.out]; omega)])
            rw [hs1] at HS
            clear hs1 hz1 hz0
            go_wp2_with fail
            refine (HS.out _).mono ?_
            rintro e W4 ⟨rfl, hE3⟩
            replace t1 := hE3.cell t1
            replace t2 := hE3.cell t2
            have hL4 := hL2.ext (hW1.trans hE3)
            rw [hP.out] at hL4
            have hE4 := hE2.trans (hW1.trans hE3)
            clear hE3 hW1 HT HS
            go_wp2_with fail
          all_goals
            have hO3 := posAt_ops c d ls2 (by rw [HN2.out]; exact hdL2)
            have hd3 := hd2.ops hO3
            have HO3 := Lib.hid (hK.out.2.1.trans ((HSW.out.ops.mono (Nat.zero_le d)).trans (hO3.mono (Nat.zero_le d))))
            have HA3 := Lib.hid (HA2.out.pos (c := c) (d := d) (by rw [HN2.out]; exact hdL2))
            have HN3 := Lib.hid (show (posAt c d ls2).length = L by rw [posAt_length]; exact HN2.out)
            have HZ3 := Lib.hid (show en (posAt c d ls2) d c ≠ 0 by
              rw [en_posAt (by rw [HN2.out]; exact hdL2)]
              have : en ls2 d c ≠ 0 := HZ.out
              split <;> omega)
            have HF := Lib.hid (hK.out.1.next hd1 HN1.out HSW.out)
            have HA4 := Lib.hid ((HA3.out.abv (c := c) (d := d) (j := d) (by rw [HN3.out]; exact hdL2) HZ3.out).mono (F := bC L k (c + 1)) (by have := Hbn.out; omega))
            have hR : ∀ j, j ≤ d → ∀ t, t < L → t = d ∨ j ≤ t → All (fun z => z.natAbs < 2 ^ (bC L k c * (L - d + 2) + 2)) ((abvTo c d j (posAt c d ls2)).getD t default) := fun j hj t ht ht2 => by
              rw [abvTo_getD c d j (by rw [HN3.out]; exact ht), if_neg (by omega)]
              exact HA3.out t (by rw [HN3.out]; exact ht)
            have HR := Lib.hid hR
            have Hlen := Lib.hid hL2.len
            clear hO3 hR hL2
            generalize posAt c d ls2 = ls3 at *
            go_loopw [40] (fun idx wr => ∃ j : Nat, j ≤ d ∧ idx = .int .i64 j ∧ Lns w0.heap.size wr g ad2 (abvTo c d j ls3) ∧ Ext w0 wr ∧ wr.cell? ⟨V2.heap.size, 0, none⟩ = some (slv gx n cx) ∧ wr.cell? ⟨V2.heap.size, 1, none⟩ = some (slv gy m cy)) (fun idx _ => d - (intOf idx).toNat)
            case atStart => exact ⟨0, by omega, by go_num, by rw [abvTo_zero]; exact hL4, hE4, t1, t2⟩
            case round =>
              obtain ⟨j, hj, rfl, hL5, hE5, t5, t6⟩ := hrel
              generalize wr = X at *
              by_cases hjl : j < d
              · have hji : (j : Int) < (d : Int) := by omega
                have hO5 := abvTo_ops c d ls3 (by rw [HN3.out]; exact hdL2) j hj
                have hd5 := hd3.ops hO5
                have HN5 := Lib.hid (show (abvTo c d j ls3).length = L by rw [abvTo_length]; exact HN3.out)
                obtain ⟨gx', cx', gy', cy', ead', c1', c2', cz', o1', o2', _, _, _⟩ := hL5.ln (d := 0) (c := c) (i := j) (o := j * 2) hd5 (by rw [HN5.out]; omega) (by omega) hlt
                obtain ⟨gxt, cxt, gyt, cyt, eadt, c1t, c2t, ct, _⟩ := hL5.ln (d := 0) (c := c) (i := d) (o := d * 2) hd5 (by rw [HN5.out]; omega) (by omega) hlt
                have het : gx = gxt ∧ cx = cxt ∧ gy = gyt ∧ cy = cyt := by
                  have := Ead.out
                  rw [Nat.add_zero] at this
                  rw [Nat.zero_add, this] at eadt
                  have := Option.some.inj eadt
                  injection this with a b c e
                  exact ⟨a, b, c, e⟩
                obtain ⟨q1, q2, q3, q4⟩ := het
                subst q1 q2 q3 q4
                have hjT : gx' < V2.heap.size ∧ gy' < V2.heap.size := by
                  have hja : j < ad2.length := by rw [Hlen.out, HN2.out]; omega
                  have := HgT.out j hja
                  rw [Nat.zero_add, List.getElem?_eq_getElem hja] at ead'
                  rw [Option.some.inj ead'] at this
                  exact this
                obtain ⟨z', hz⟩ : ∃ z', z' = cols c 0 (abvTo c d j ls3) j := ⟨_, rfl⟩
                obtain ⟨y', hy⟩ : ∃ y', y' = cols c 0 (abvTo c d j ls3) d := ⟨_, rfl⟩
                rw [← hz] at cz'
                rw [← hy] at ct
                have hy0 : y' ≠ 0 := by
                  rw [hy]
                  have := HZ3.out
                  unfold en at this
                  unfold cols; rw [Nat.zero_add, abvTo_getD c d j (by rw [HN3.out]; exact hdL2), if_neg (by omega)]; exact this
                have hA1 := HR.out j hj (0 + j) (by omega) (by omega)
                have hA0 := HR.out j hj (0 + d) (by omega) (by omega)
                have hzE : z'.natAbs < 2 ^ (bC L k c * (L - d + 2) + 2) := by rw [hz]; exact hA1.col (Q := fun z => z.natAbs < 2 ^ (bC L k c * (L - d + 2) + 2)) (Nat.pow_pos (by omega)) c
                have hyE : y'.natAbs < 2 ^ (bC L k c * (L - d + 2) + 2) := by rw [hy]; exact hA0.col (Q := fun z => z.natAbs < 2 ^ (bC L k c * (L - d + 2) + 2)) (Nat.pow_pos (by omega)) c
                have hqE : (z'.fdiv y').natAbs < 2 ^ (bC L k c * (L - d + 2) + 2) := Nat.lt_of_le_of_lt (fdiv_abs z' hy0) hzE
                have hstep := abvTo_step c d j ls3 hjl (by rw [HN3.out]; exact hdL2)
                have hz2 : col c ((abvTo c d j ls3).getD j default) = z' := by rw [hz]; unfold cols; rw [Nat.zero_add]
                have hy2 : col c ((abvTo c d j ls3).getD d default) = y' := by rw [hy]; unfold cols; rw [Nat.zero_add]
                rw [hz2, hy2] at hstep
                have Hzl : Hid (nd z' < LIM) := by have := nd_lt2 hzE; have := HE2.out; exact Lib.hid (by omega)
                have Hyl : Hid (nd y' < LIM) := by have := nd_lt2 hyE; have := HE2.out; exact Lib.hid (by omega)
                rw [Nat.zero_add] at ead' eadt
                have Hl := Lib.hid (fun W (hW : Ext X W) => less_linesC (w0 := w0) (w := W) (i := j) (t := d) (hL5.ext hW) hd5 (by rw [HN5.out]; omega) (by rw [HN5.out]; omega) (by omega) hn hm ead' eadt (by rw [Nat.zero_add] at hA1; exact hA1) (by rw [Nat.zero_add] at hA0; exact hA0) hqE HE2.out HL.out (hE5.trans hW))
                have Hstep := Lib.hid hstep
                have Hy0 := Lib.hid hy0
                have lgx' := o1'.lt.2
                have lgy' := o2'.lt.2
                clear hy hz ead' eadt o1' o2' hA1 hA0 hzE hyE hqE hstep hy0 hz2 hy2
                have hEW := (Ext.refl X).alloc (.cells #[slv gx' n cx', slv gy' m cy'] 106)
                have hW5 : Ext X (X.alloc (.cells #[slv gx' n cx', slv gy' m cy'] 106)) := hEW
                have k1 := cell_regrown (hEW.cell cz')
                have k2 := cell_regrown (hEW.cell ct)
                have k3 := cell_regrown (hEW.cell t5)
                have k5 := cell_regrown (hEW.cell t6)
                have k4 := cell_regrown (show (X.alloc (.cells #[slv gx' n cx', slv gy' m cy'] 106)).cell? ⟨X.heap.size, 0, none⟩ = some (slv gx' n cx') by go_simp)
                have k6 := cell_regrown (show (X.alloc (.cells #[slv gx' n cx', slv gy' m cy'] 106)).cell? ⟨X.heap.size, 1, none⟩ = some (slv gy' m cy') by go_simp)
                have bD := Lib.hid (quietC (w := X.alloc (.cells #[slv gx' n cx', slv gy' m cy'] 106)) (fun W h => DivMod_any (a := z') (b := y') (w := W) Hzl.out Hyl.out Hy0.out (HL.out.ext (hE5.trans (hW5.trans h)))))
                clear hEW
                go_wp2_with fail
                refine wp_region_quiet_below (by kernel_rfl) (by kernel_rfl) ?_
                repeat (quiet_step (exact bD.out _ _))
                refine wpQuiet_nil ?_
                intro _ hw'
                obtain ⟨⟨dq, osq⟩, hw''⟩ := hw'
                subst hw''
                have hE6 := hW5.trans (ext_regrown _ dq osq)
                have m4 := k4 dq osq
                have m6 := k6 dq osq
                have m3 := k3 dq osq
                have m5 := k5 dq osq
                clear bD k1 k2 k3 k4 k5 k6
                generalize hW6 : grow (redrawn _ _) _ = W6 at *
                clear hW6
                go_wp2_with fail
                refine (Hl.out _ hE6).mono ?_
                rintro e W8 ⟨rfl, hL8, hE8, hC8⟩
                rw [← Hstep.out] at hL8
                have n3 := hC8.cell (by omega) m3
                have n5 := hC8.cell (by omega) m5
                clear hC8 m3 m4 m5 m6
                go_wp2_with fail
                go_roundw
                case rel => exact ⟨j + 1, by omega, by go_num, hL8, hE8, n3, n5⟩
                case measure => simp [intOf] <;> omega
              · have hje : j = d := by omega
                subst hje
                go_wp2_with fail
                go_roundw
                case rel => exact ⟨c + 1, j + 1, _, ad2, _, by omega, by omega, by go_num, by go_num, hL5, hE5, Lib.hid ⟨HF.out, HO3.out.trans (abvTo_ops c j ls3 (by rw [HN3.out]; exact hdL2) j (Nat.le_refl _)), HA4.out⟩⟩
                case measure => simp [intOf] <;> omega
      · have hld : L - d = 0 := by omega
        have hds : SwR c d (L - d) (bC L k c) ls1 ls1 false := ⟨.refl _, fun t h => by omega, fun _ t h => by omega, fun h => by cases h⟩
        have HSW := Lib.hid hds
        clear hds
        by_cases hcl : cp = d
        focus
          have hcl' := hcl.symm
          clear hcl
          subst hcl'
        all_goals
          go_wp2_with fail
          refine sweep_empty.mono ?_
          rintro e V2 ⟨rfl, rfl⟩
          go_wp2_with fail
          go_roundw
          case rel => exact ⟨c + 1, d, ps, ad1, ls1, by omega, by omega, by go_num, rfl, hL1, hE1, Lib.hid ⟨hK.out.1.skip hd1 HN1.out HSW.out, hK.out.2.1, hK.out.2.2.mono (bC_le L k c).2⟩⟩
          case measure => simp [intOf] <;> omega
    · go_wp2_with fail
      go_ret
      have hce : c = n := by omega
      subst hce
      exact ⟨d, ps, ad1, ls1, rfl, hL1, hK.out.1, hK.out.2.1, hK.out.2.2, hE1⟩
end Go.Proofs.YtkjnjmihfonilaaGreatDoor
namespace Go.Proofs.YtkjnjmihfonilaaGreatDoor
open Go.RowKit Go.Sort
structure LnsV (B : Nat) (w : World) (v : Value) (ad : List Ad) (ls : List Ln) (n m : Nat) : Prop where
  len : ad.length = ls.length
  row : w.ownsRow B 106 2 v ls.length (hdrs n m ad)
  dim : Dim n m ls
  x : 0 < n → ∀ i (h : i < ls.length) (h' : i < ad.length), OwnV 80 B w ad[i].gx ad[i].cx (ss ls[i].1)
  y : ∀ i (h : i < ls.length) (h' : i < ad.length), OwnV 80 B w ad[i].gy ad[i].cy (ss ls[i].2)
  own : ∀ i (h : i < ad.length), v.ownBlock ≠ some ad[i].gy ∧ (0 < n → v.ownBlock ≠ some ad[i].gx ∧ ad[i].gx ≠ ad[i].gy)
  dis : ∀ i j (hi : i < ad.length) (hj : j < ad.length), i ≠ j → ad[i].gy ≠ ad[j].gy ∧ (0 < n → ad[i].gx ≠ ad[j].gx ∧ ad[i].gx ≠ ad[j].gy ∧ ad[i].gy ≠ ad[j].gx)
theorem LnsV.nil (B : Nat) (w : World) (n m : Nat) : LnsV B w (.slice none 0 0) [] [] n m :=
  ⟨rfl, ⟨rfl, .inl ⟨rfl, rfl⟩⟩, (fun l h => by cases h), (fun _ i h => by simp at h), (fun i h => by simp at h), (fun i h => by simp at h), (fun i j h => by simp at h)⟩
theorem LnsV.ext {B : Nat} {w w' : World} {v : Value} {ad : List Ad} {ls : List Ln} {n m : Nat} (h : LnsV B w v ad ls n m) (he : Ext w w') : LnsV B w' v ad ls n m where
  len := h.len
  row := ownsRow_ext h.row he
  dim := h.dim
  x := fun hn i a b => (h.x hn i a b).ext he
  y := fun i a b => (h.y i a b).ext he
  own := h.own
  dis := h.dis
theorem LnsV.lns {B : Nat} {w : World} {g cap n m : Nat} {ad : List Ad} {ls : List Ln} (h : LnsV B w (slv g ls.length cap) ad ls n m) (hn : 0 < n) : Lns B w g ad ls := by
  have hl := World.ownsRow.lt h.row g rfl
  have hob : (slv g ls.length cap).ownBlock = some g := rfl
  have hc : ∀ i (a : i < ls.length) (b : i < ad.length), w.cell? ⟨g, 2 * i, none⟩ = some (slv ad[i].gx n ad[i].cx) ∧ w.cell? ⟨g, 2 * i + 1, none⟩ = some (slv ad[i].gy m ad[i].cy) := by
    intro i a b
    have hg := hdrs_get n m ad i b
    rw [xv_pos hn] at hg
    rw [World.ownsRow.cellAt h.row (2 * i) (by omega), World.ownsRow.cellAt h.row (2 * i + 1) (by omega)]
    exact hg
  refine ⟨h.len, hl.1, hl.2, fun o => World.ownsRow.frozenAt h.row o, fun i a b => ?_, fun i a b => ?_, h.x hn, h.y, fun i a => ?_, fun i j a b hij => ?_⟩
  · rw [(h.dim.get a).1]; exact (hc i a b).1
  · rw [(h.dim.get a).2]; exact (hc i a b).2
  · have := h.own i a
    rw [hob] at this
    exact ⟨fun e => (this.2 hn).1 (by rw [e]), fun e => this.1 (by rw [e]), (this.2 hn).2⟩
  · have := h.dis i j a b hij
    exact ⟨(this.2 hn).1, (this.2 hn).2.1, (this.2 hn).2.2, this.1⟩
end Go.Proofs.YtkjnjmihfonilaaGreatDoor
