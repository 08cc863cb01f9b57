/- Part 13 of the proof of the claim: contracts of the functions that it reaches, and plain laws; no condition. -/
import Derived.Test.YthmhmkkcjlgbjaaGreatDoorV12
import Derived.Test.YthmhmkkcjlgbjaaGreatDoorV09
import Derived.Test.YthmhmkkcjlgbjaaGreatDoorV11
import Derived.Deep.RegionHeld3
import Derived.Deep.AppendLies
/- hermite: echelon -/
namespace Go.Proofs.YthmhmkkcjlgbjaaGreatDoor
open Go.RowKit Go.Sort
set_option maxRecDepth 100000 in
theorem sweep_empty {ga : Option Addr} {cp : Nat} {c : Nat} {w : World} : Calls Tryz.prog 81 #[.slice ga 0 cp, .int .i64 c] w fun e w' => e = .returned (.bool false) ∧ w' = w := by
  go_enter Tryz.func81, Tryz.ntmps81
  go_wp2_with fail
  go_loopg [] 0 (fun _ wr => wr = w)
  case atStart => rfl
  case round =>
    obtain rfl := hrel
    go_wp2_with fail
    go_loop [5, 16] (fun be idx => idx = .int .i64 0 ∧ be = .int .i64 (-1)) (fun _ _ => 0)
    case atStart => exact ⟨rfl, rfl⟩
    case round =>
      obtain ⟨rfl, rfl⟩ := hrel
      go_wp2_with fail
      go_ret
      exact ⟨rfl, rfl⟩
theorem sweep_at {w0 w : World} {g o cp n m d c N k : Nat} {ad : List Ad} {ls : List Ln} (ho : o = 2 * d)
    (hN : ls.length = d + N) (hNl : ls.length ≤ 1000000) (hcp : N ≤ cp) (hcn : c < n) (hn : n ≤ 1000000) (hm : m ≤ 1000000)
    (hLn : Lns w0.heap.size w g ad ls) (hdim : Dim n m ls) (hA : AllL k ls) (hk : 2 * (k * (N + 2) + 2) + 2 < LIM) (hL : Laid w0) (hE : Ext w0 w) :
    Calls Tryz.prog 81 #[.slice (some ⟨g, o, none⟩) N cp, .int .i64 c] w (SwPost w0 g c d N k ls) := by
  subst ho
  exact sweep_walk hN hNl hcp hcn hn hm hLn hdim (fun t ht => hA (d + t) (by omega)) hk hL hE
def EchPost (w0 : World) (g n L k : Nat) (ls : List Ln) (e : Ending) (w' : World) : Prop :=
  ∃ d ps ad' ls', e = .returned (.int .i64 (d : Nat)) ∧ Lns w0.heap.size w' g ad' ls' ∧ FormTo n d ps ls' ∧ Ops 0 ls ls' ∧ AllL (bC L k n) ls' ∧ Ext w0 w'
set_option maxRecDepth 100000 in
set_option maxHeartbeats 1000000 in
theorem echelon_walk {w0 w : World} {g cp n m L k : Nat} {ad : List Ad} {ls : List Ln}
    (hN : ls.length = L) (hNl : L ≤ 1000000) (hcp : L ≤ cp) (hn : n ≤ 1000000) (hm : m ≤ 1000000)
    (hLn : Lns w0.heap.size w g ad ls) (hdim : Dim n m ls) (hA : AllL k ls) (hk : bC L k n + 2 < LIM) (hL : Laid w0) (hE : Ext w0 w) :
    Calls Tryz.prog 47 #[.slice (some ⟨g, 0, none⟩) L cp, .int .i64 n] w (EchPost w0 g n L k ls) := by
  have HL := Lib.hid hL
  have Hk := Lib.hid hk
  have HN := Lib.hid hN
  clear hk hL hN
  go_enter Tryz.func47, Tryz.ntmps47
  go_wp2_with fail
  go_loopw [5, 14] (fun dn idx wr => ∃ (c d : Nat) (ps : List Nat) (ad1 : List Ad) (ls1 : List Ln), c ≤ n ∧ d ≤ L ∧ idx = .int .i64 c ∧ dn = .int .i64 d ∧ Lns w0.heap.size wr g ad1 ls1 ∧ Ext w0 wr ∧ Hid (FormTo c d ps ls1 ∧ Ops 0 ls ls1 ∧ AllL (bC L k c) ls1)) (fun _ idx _ => n - (intOf idx).toNat)
  case atStart => exact ⟨0, 0, [], ad, ls, by omega, by omega, by go_num, by go_num, hLn, hE, Lib.hid ⟨FormTo.start ls, .refl _, hA⟩⟩
  case round =>
    obtain ⟨c, d, ps, ad1, ls1, hc, hdL, rfl, rfl, hL1, hE1, hK⟩ := hrel
    generalize wr = V at *
    by_cases hlt : c < n
    · have hci : (c : Int) < (n : Int) := by omega
      have hdi : (d : Int) ≤ (L : Int) := by omega
      have hdc : (d : Int) ≤ (cp : Int) := by omega
      have hbn := bC_next (L := L) (N := L - d) (k := k) (c := c) (by omega)
      have hbm := bC_mono L k (c + 1) (n - (c + 1))
      rw [show c + 1 + (n - (c + 1)) = n by omega] at hbm
      have Hbn := Lib.hid hbn
      have Hbm := Lib.hid hbm
      have hd1 := hdim.ops hK.out.2.1
      have HN1 := Lib.hid (show ls1.length = d + (L - d) by rw [hK.out.2.1.length, HN.out]; omega)
      clear hbn hbm
      by_cases hdL2 : d < L
      · have hsw := Lib.hid (sweep_at (w0 := w0) (w := V) (g := g) (o := d * 2) (cp := cp - d) (n := n) (m := m) (d := d) (c := c) (N := L - d) (k := bC L k c) (ad := ad1) (ls := ls1) (Nat.mul_comm d 2) HN1.out (by have := HN1.out; omega) (by omega) hlt hn hm hL1 hd1 hK.out.2.2 (by have := Hbn.out; have := Hbm.out; have := Hk.out; omega) HL.out hE1)
        go_wp2_with fail
        refine hsw.out.mono ?_
        rintro e V2 ⟨r, ad2, ls2, rfl, hL2, hSW, hE2⟩
        have HSW := Lib.hid hSW
        clear hsw hSW
        cases r
        · go_wp2_with fail
          go_roundw
          case rel => exact ⟨c + 1, d, ps, ad2, ls2, by omega, by omega, by go_num, rfl, hL2, hE2, Lib.hid ⟨hK.out.1.skip hd1 HN1.out HSW.out, hK.out.2.1.trans (HSW.out.ops.mono (by omega)), (HSW.out.all HN1.out hK.out.2.2).mono (by have := Hbn.out; omega)⟩⟩
          case measure => simp [intOf] <;> omega
        · have hd2 := hd1.ops HSW.out.ops
          have HN2 := Lib.hid (show ls2.length = L by rw [HSW.out.ops.length, HN1.out]; omega)
          obtain ⟨gx, cx, gy, cy, ead, c1, c2, cz, o1, o2, _, _, _⟩ := hL2.ln (d := d) (c := c) (i := 0) (o := d * 2) hd2 (by rw [HN2.out]; omega) (by omega) hlt
          obtain ⟨z, hz⟩ : ∃ z, z = cols c d ls2 0 := ⟨_, rfl⟩
          rw [← hz] at cz
          have Hz := Lib.hid hz
          have lgx := o1.lt.2
          have lgy := o2.lt.2
          have Ead := Lib.hid ead
          have HA2 := Lib.hid (HSW.out.all HN1.out hK.out.2.2)
          have HE2 := Lib.hid (show 2 * (bC L k c * (L - d + 2) + 2) + 2 < LIM by have := Hbn.out; have := Hbm.out; have := Hk.out; omega)
          have HZ := Lib.hid ((HSW.out.yes rfl).2.1)
          have hz0 : z ≠ 0 := by rw [hz]; exact HZ.out
          have hgT : ∀ i (h : i < ad2.length), ad2[i].gx < V2.heap.size ∧ ad2[i].gy < V2.heap.size := fun i h => ⟨(hL2.x i (by rw [← hL2.len]; exact h) h).lt.2, (hL2.y i (by rw [← hL2.len]; exact h) h).lt.2⟩
          have HgT := Lib.hid hgT
          have hW1 := (Ext.refl V2).alloc (.cells #[slv gx n cx, slv gy m cy] 90)
          have HS := Lib.hid (Sign_any z)
          have HT := Lib.hid (fun W (hW : Ext V2 W) => turn_linesC (w0 := w0) (w := W) (i := d + 0) (hL2.ext hW) hd2 (by rw [HN2.out]; omega) hn hm ead (HA2.out (d + 0) (by rw [HN2.out]; omega)) HE2.out (hE2.trans hW))
          clear o1 o2 ead hz hgT
          have t1 := show (V2.alloc (.cells #[slv gx n cx, slv gy m cy] 90)).cell? ⟨V2.heap.size, 0, none⟩ = some (slv gx n cx) by go_simp
          have t2 := show (V2.alloc (.cells #[slv gx n cx, slv gy m cy] 90)).cell? ⟨V2.heap.size, 1, none⟩ = some (slv gy m cy) by go_simp
          rcases Int.lt_or_gt_of_ne hz0 with hz1 | hz1
          focus
            have hs1 : z.sign = -1 := Int.sign_eq_neg_one_of_neg hz1
            have hP := Lib.hid (show ls2.set (d + 0) (lneg (ls2.getD (d + 0) default)) = posAt c d ls2 by unfold posAt; rw [if_pos (by show cols c d ls2 0 < 0; rw [← Hz.out]; exact hz1)]; rfl)
            rw [hs1] at HS
            clear hs1 hz1 hz0
            go_wp2_with fail
            refine (HS.out _).mono ?_
            rintro e W3 ⟨rfl, hE3⟩
            replace t1 := hE3.cell t1
            replace t2 := hE3.cell t2
            go_wp2_with fail
            refine (HT.out _ (hW1.trans hE3)).mono ?_
            rintro e W4 ⟨rfl, hL4, hE4, hC4⟩
            replace t1 := hC4.cell (by omega) t1
            replace t2 := hC4.cell (by omega) t2
            rw [hP.out] at hL4
            clear hC4 hE3 hW1 HT HS
            go_wp2_with fail
          rotate_left
          focus
            have hs1 : z.sign = 1 := Int.sign_eq_one_of_pos hz1
            have hP := Lib.hid (show ls2 = posAt c d ls2 by unfold posAt; rw [if_neg (by show ¬ cols c d ls2 0 < 0; rw [← Hz.out]; omega)])
            rw [hs1] at HS
            clear hs1 hz1 hz0
            go_wp2_with fail
            refine (HS.out _).mono ?_
            rintro e W4 ⟨rfl, hE3⟩
            replace t1 := hE3.cell t1
            replace t2 := hE3.cell t2
            have hL4 := hL2.ext (hW1.trans hE3)
            rw [hP.out] at hL4
            have hE4 := hE2.trans (hW1.trans hE3)
            clear hE3 hW1 HT HS
            go_wp2_with fail
          all_goals
            have hO3 := posAt_ops c d ls2 (by rw [HN2.out]; exact hdL2)
            have hd3 := hd2.ops hO3
            have HO3 := Lib.hid (hK.out.2.1.trans ((HSW.out.ops.mono (Nat.zero_le d)).trans (hO3.mono (Nat.zero_le d))))
            have HA3 := Lib.hid (HA2.out.pos (c := c) (d := d) (by rw [HN2.out]; exact hdL2))
            have HN3 := Lib.hid (show (posAt c d ls2).length = L by rw [posAt_length]; exact HN2.out)
            have HZ3 := Lib.hid (show en (posAt c d ls2) d c ≠ 0 by
              rw [en_posAt (by rw [HN2.out]; exact hdL2)]
              have : en ls2 d c ≠ 0 := HZ.out
              split <;> omega)
            have HF := Lib.hid (hK.out.1.next hd1 HN1.out HSW.out)
            have HA4 := Lib.hid ((HA3.out.abv (c := c) (d := d) (j := d) (by rw [HN3.out]; exact hdL2) HZ3.out).mono (F := bC L k (c + 1)) (by have := Hbn.out; omega))
            have hR : ∀ j, j ≤ d → ∀ t, t < L → t = d ∨ j ≤ t → All (fun z => z.natAbs < 2 ^ (bC L k c * (L - d + 2) + 2)) ((abvTo c d j (posAt c d ls2)).getD t default) := fun j hj t ht ht2 => by
              rw [abvTo_getD c d j (by rw [HN3.out]; exact ht), if_neg (by omega)]
              exact HA3.out t (by rw [HN3.out]; exact ht)
            have HR := Lib.hid hR
            have Hlen := Lib.hid hL2.len
            clear hO3 hR hL2
            generalize posAt c d ls2 = ls3 at *
            go_loopw [40] (fun idx wr => ∃ j : Nat, j ≤ d ∧ idx = .int .i64 j ∧ Lns w0.heap.size wr g ad2 (abvTo c d j ls3) ∧ Ext w0 wr ∧ wr.cell? ⟨V2.heap.size, 0, none⟩ = some (slv gx n cx) ∧ wr.cell? ⟨V2.heap.size, 1, none⟩ = some (slv gy m cy)) (fun idx _ => d - (intOf idx).toNat)
            case atStart => exact ⟨0, by omega, by go_num, by rw [abvTo_zero]; exact hL4, hE4, t1, t2⟩
            case round =>
              obtain ⟨j, hj, rfl, hL5, hE5, t5, t6⟩ := hrel
              generalize wr = X at *
              by_cases hjl : j < d
              · have hji : (j : Int) < (d : Int) := by omega
                have hO5 := abvTo_ops c d ls3 (by rw [HN3.out]; exact hdL2) j hj
                have hd5 := hd3.ops hO5
                have HN5 := Lib.hid (show (abvTo c d j ls3).length = L by rw [abvTo_length]; exact HN3.out)
                obtain ⟨gx', cx', gy', cy', ead', c1', c2', cz', o1', o2', _, _, _⟩ := hL5.ln (d := 0) (c := c) (i := j) (o := j * 2) hd5 (by rw [HN5.out]; omega) (by omega) hlt
                obtain ⟨gxt, cxt, gyt, cyt, eadt, c1t, c2t, ct, _⟩ := hL5.ln (d := 0) (c := c) (i := d) (o := d * 2) hd5 (by rw [HN5.out]; omega) (by omega) hlt
                have het : gx = gxt ∧ cx = cxt ∧ gy = gyt ∧ cy = cyt := by
                  have := Ead.out
                  rw [Nat.add_zero] at this
                  rw [Nat.zero_add, this] at eadt
                  have := Option.some.inj eadt
                  injection this with a b c e
                  exact ⟨a, b, c, e⟩
                obtain ⟨q1, q2, q3, q4⟩ := het
                subst q1 q2 q3 q4
                have hjT : gx' < V2.heap.size ∧ gy' < V2.heap.size := by
                  have hja : j < ad2.length := by rw [Hlen.out, HN2.out]; omega
                  have := HgT.out j hja
                  rw [Nat.zero_add, List.getElem?_eq_getElem hja] at ead'
                  rw [Option.some.inj ead'] at this
                  exact this
                obtain ⟨z', hz⟩ : ∃ z', z' = cols c 0 (abvTo c d j ls3) j := ⟨_, rfl⟩
                obtain ⟨y', hy⟩ : ∃ y', y' = cols c 0 (abvTo c d j ls3) d := ⟨_, rfl⟩
                rw [← hz] at cz'
                rw [← hy] at ct
                have hy0 : y' ≠ 0 := by
                  rw [hy]
                  have := HZ3.out
                  unfold en at this
                  unfold cols; rw [Nat.zero_add, abvTo_getD c d j (by rw [HN3.out]; exact hdL2), if_neg (by omega)]; exact this
                have hA1 := HR.out j hj (0 + j) (by omega) (by omega)
                have hA0 := HR.out j hj (0 + d) (by omega) (by omega)
                have hzE : z'.natAbs < 2 ^ (bC L k c * (L - d + 2) + 2) := by rw [hz]; exact hA1.col (Q := fun z => z.natAbs < 2 ^ (bC L k c * (L - d + 2) + 2)) (Nat.pow_pos (by omega)) c
                have hyE : y'.natAbs < 2 ^ (bC L k c * (L - d + 2) + 2) := by rw [hy]; exact hA0.col (Q := fun z => z.natAbs < 2 ^ (bC L k c * (L - d + 2) + 2)) (Nat.pow_pos (by omega)) c
                have hqE : (z'.fdiv y').natAbs < 2 ^ (bC L k c * (L - d + 2) + 2) := Nat.lt_of_le_of_lt (fdiv_abs z' hy0) hzE
                have hstep := abvTo_step c d j ls3 hjl (by rw [HN3.out]; exact hdL2)
                have hz2 : col c ((abvTo c d j ls3).getD j default) = z' := by rw [hz]; unfold cols; rw [Nat.zero_add]
                have hy2 : col c ((abvTo c d j ls3).getD d default) = y' := by rw [hy]; unfold cols; rw [Nat.zero_add]
                rw [hz2, hy2] at hstep
                have Hzl : Hid (nd z' < LIM) := by have := nd_lt2 hzE; have := HE2.out; exact Lib.hid (by omega)
                have Hyl : Hid (nd y' < LIM) := by have := nd_lt2 hyE; have := HE2.out; exact Lib.hid (by omega)
                rw [Nat.zero_add] at ead' eadt
                have Hl := Lib.hid (fun W (hW : Ext X W) => less_linesC (w0 := w0) (w := W) (i := j) (t := d) (hL5.ext hW) hd5 (by rw [HN5.out]; omega) (by rw [HN5.out]; omega) (by omega) hn hm ead' eadt (by rw [Nat.zero_add] at hA1; exact hA1) (by rw [Nat.zero_add] at hA0; exact hA0) hqE HE2.out HL.out (hE5.trans hW))
                have Hstep := Lib.hid hstep
                have Hy0 := Lib.hid hy0
                have lgx' := o1'.lt.2
                have lgy' := o2'.lt.2
                clear hy hz ead' eadt o1' o2' hA1 hA0 hzE hyE hqE hstep hy0 hz2 hy2
                have hEW := (Ext.refl X).alloc (.cells #[slv gx' n cx', slv gy' m cy'] 90)
                have hW5 : Ext X (X.alloc (.cells #[slv gx' n cx', slv gy' m cy'] 90)) := hEW
                have k1 := cell_regrown (hEW.cell cz')
                have k2 := cell_regrown (hEW.cell ct)
                have k3 := cell_regrown (hEW.cell t5)
                have k5 := cell_regrown (hEW.cell t6)
                have k4 := cell_regrown (show (X.alloc (.cells #[slv gx' n cx', slv gy' m cy'] 90)).cell? ⟨X.heap.size, 0, none⟩ = some (slv gx' n cx') by go_simp)
                have k6 := cell_regrown (show (X.alloc (.cells #[slv gx' n cx', slv gy' m cy'] 90)).cell? ⟨X.heap.size, 1, none⟩ = some (slv gy' m cy') by go_simp)
                have bD := Lib.hid (quietC (w := X.alloc (.cells #[slv gx' n cx', slv gy' m cy'] 90)) (fun W h => DivMod_any (a := z') (b := y') (w := W) Hzl.out Hyl.out Hy0.out (HL.out.ext (hE5.trans (hW5.trans h)))))
                clear hEW
                go_wp2_with fail
                refine wp_region_quiet_below (by kernel_rfl) (by kernel_rfl) ?_
                repeat (quiet_step (exact bD.out _ _))
                refine wpQuiet_nil ?_
                intro _ hw'
                obtain ⟨⟨dq, osq⟩, hw''⟩ := hw'
                subst hw''
                have hE6 := hW5.trans (ext_regrown _ dq osq)
                have m4 := k4 dq osq
                have m6 := k6 dq osq
                have m3 := k3 dq osq
                have m5 := k5 dq osq
                clear bD k1 k2 k3 k4 k5 k6
                generalize hW6 : grow (redrawn _ _) _ = W6 at *
                clear hW6
                go_wp2_with fail
                refine (Hl.out _ hE6).mono ?_
                rintro e W8 ⟨rfl, hL8, hE8, hC8⟩
                rw [← Hstep.out] at hL8
                have n3 := hC8.cell (by omega) m3
                have n5 := hC8.cell (by omega) m5
                clear hC8 m3 m4 m5 m6
                go_wp2_with fail
                go_roundw
                case rel => exact ⟨j + 1, by omega, by go_num, hL8, hE8, n3, n5⟩
                case measure => simp [intOf] <;> omega
              · have hje : j = d := by omega
                subst hje
                go_wp2_with fail
                go_roundw
                case rel => exact ⟨c + 1, j + 1, _, ad2, _, by omega, by omega, by go_num, by go_num, hL5, hE5, Lib.hid ⟨HF.out, HO3.out.trans (abvTo_ops c j ls3 (by rw [HN3.out]; exact hdL2) j (Nat.le_refl _)), HA4.out⟩⟩
                case measure => simp [intOf] <;> omega
      · have hld : L - d = 0 := by omega
        have hds : SwR c d (L - d) (bC L k c) ls1 ls1 false := ⟨.refl _, fun t h => by omega, fun _ t h => by omega, fun h => by cases h⟩
        have HSW := Lib.hid hds
        clear hds
        by_cases hcl : cp = d
        focus
          have hcl' := hcl.symm
          clear hcl
          subst hcl'
        all_goals
          go_wp2_with fail
          refine sweep_empty.mono ?_
          rintro e V2 ⟨rfl, rfl⟩
          go_wp2_with fail
          go_roundw
          case rel => exact ⟨c + 1, d, ps, ad1, ls1, by omega, by omega, by go_num, rfl, hL1, hE1, Lib.hid ⟨hK.out.1.skip hd1 HN1.out HSW.out, hK.out.2.1, hK.out.2.2.mono (bC_le L k c).2⟩⟩
          case measure => simp [intOf] <;> omega
    · go_wp2_with fail
      go_ret
      have hce : c = n := by omega
      subst hce
      exact ⟨d, ps, ad1, ls1, rfl, hL1, hK.out.1, hK.out.2.1, hK.out.2.2, hE1⟩
end Go.Proofs.YthmhmkkcjlgbjaaGreatDoor
/- Matrices in memory; lines that are being made. -/
namespace Go.Proofs.YthmhmkkcjlgbjaaGreatDoor
open Go.RowKit Go.Sort
/-- A value that reads as a row of ints. -/
def RowR (w : World) (v : Value) (r : List Int) : Prop := ∃ sa gb go cap, v = .slice sa r.length cap ∧ r.length ≤ cap ∧ Sl w sa gb go (is r)
/-- A value that reads as a matrix. -/
def MatR (w : World) (v : Value) (M : Mx) : Prop := ∃ sa gb go cap vs, v = .slice sa M.length cap ∧ M.length ≤ cap ∧ vs.length = M.length ∧ Sl w sa gb go vs ∧ ∀ i (h : i < M.length) (h' : i < vs.length), RowR w vs[i] M[i]
theorem RowR.ext {w w' : World} {v : Value} {r : List Int} (h : RowR w v r) (he : Ext w w') : RowR w' v r := by
  obtain ⟨sa, gb, go, cap, e, hc, hs⟩ := h; exact ⟨sa, gb, go, cap, e, hc, hs.ext he⟩
theorem MatR.ext {w w' : World} {v : Value} {M : Mx} (h : MatR w v M) (he : Ext w w') : MatR w' v M := by
  obtain ⟨sa, gb, go, cap, vs, e, hc, hl, hs, hr⟩ := h; exact ⟨sa, gb, go, cap, vs, e, hc, hl, hs.ext he, fun i a b => (hr i a b).ext he⟩
/-- Numbers that an int can hold. -/
def I64 (z : Int) : Prop := -9223372036854775808 ≤ z ∧ z ≤ 9223372036854775807
/-- Row i's header and elements. -/
theorem MatR.row {w : World} {sa : Option Addr} {gb go : Nat} {vs : List Value} {M : Mx} (hS : Sl w sa gb go vs) (hl : vs.length = M.length) (hr : ∀ i (h : i < M.length) (h' : i < vs.length), RowR w vs[i] M[i]) {i : Nat} (hi : i < M.length) :
    ∃ sa' gb' go' cap', w.cell? ⟨gb, go + i, none⟩ = some (.slice sa' M[i].length cap') ∧ M[i].length ≤ cap' ∧ Sl w sa' gb' go' (is M[i]) := by
  have hi' : i < vs.length := by omega
  obtain ⟨sa', gb', go', cap', e, hc, hs⟩ := hr i hi hi'
  exact ⟨sa', gb', go', cap', by rw [hS.cell i _ (List.getElem?_eq_getElem hi'), e], hc, hs⟩
/-- A row that may be empty: then it is nil. -/
def xv (n g cap : Nat) : Value := if n = 0 then .slice none 0 0 else slv g n cap
theorem xv_zero (g cap : Nat) : xv 0 g cap = .slice none 0 0 := rfl
theorem xv_pos {n : Nat} (h : 0 < n) (g cap : Nat) : xv n g cap = slv g n cap := by unfold xv; rw [if_neg (by omega)]
def hdrs (n m : Nat) (ad : List Ad) : List Value := ad.flatMap fun a => [xv n a.gx a.cx, slv a.gy m a.cy]
theorem hdrs_snoc (n m : Nat) (ad : List Ad) (a : Ad) : hdrs n m (ad ++ [a]) = hdrs n m ad ++ [xv n a.gx a.cx, slv a.gy m a.cy] := by simp [hdrs]
theorem hdrs_get (n m : Nat) : ∀ (ad : List Ad) (i : Nat) (h : i < ad.length), (hdrs n m ad)[2 * i]? = some (xv n ad[i].gx ad[i].cx) ∧ (hdrs n m ad)[2 * i + 1]? = some (slv ad[i].gy m ad[i].cy)
  | [], i, h => by simp at h
  | a :: ad, 0, h => by simp [hdrs]
  | a :: ad, i + 1, h => by
    have := hdrs_get n m ad i (by simpa using h)
    simp only [hdrs, List.flatMap_cons, List.getElem_cons_succ] at this ⊢
    rw [show 2 * (i + 1) = 2 * i + 2 by omega, show 2 * i + 2 + 1 = 2 * i + 1 + 2 by omega]
    simpa using this
theorem ownsRow_ext {w w' : World} {base : Nat} {e : TypeId} {size n : Nat} {v : Value} {xs : List Value} (h : w.ownsRow base e size v n xs) (he : Ext w w') : w'.ownsRow base e size v n xs :=
  World.ownsRow.kept h (grown_ext he none) (by by_cases hv : v.ownBlock = none; exact .inl hv; exact .inr hv)
structure LnsV (B : Nat) (w : World) (v : Value) (ad : List Ad) (ls : List Ln) (n m : Nat) : Prop where
  len : ad.length = ls.length
  row : w.ownsRow B 90 2 v ls.length (hdrs n m ad)
  dim : Dim n m ls
  x : 0 < n → ∀ i (h : i < ls.length) (h' : i < ad.length), OwnV 38 B w ad[i].gx ad[i].cx (ss ls[i].1)
  y : ∀ i (h : i < ls.length) (h' : i < ad.length), OwnV 38 B w ad[i].gy ad[i].cy (ss ls[i].2)
  own : ∀ i (h : i < ad.length), v.ownBlock ≠ some ad[i].gy ∧ (0 < n → v.ownBlock ≠ some ad[i].gx ∧ ad[i].gx ≠ ad[i].gy)
  dis : ∀ i j (hi : i < ad.length) (hj : j < ad.length), i ≠ j → ad[i].gy ≠ ad[j].gy ∧ (0 < n → ad[i].gx ≠ ad[j].gx ∧ ad[i].gx ≠ ad[j].gy ∧ ad[i].gy ≠ ad[j].gx)
theorem LnsV.nil (B : Nat) (w : World) (n m : Nat) : LnsV B w (.slice none 0 0) [] [] n m :=
  ⟨rfl, ⟨rfl, .inl ⟨rfl, rfl⟩⟩, (fun l h => by cases h), (fun _ i h => by simp at h), (fun i h => by simp at h), (fun i h => by simp at h), (fun i j h => by simp at h)⟩
theorem LnsV.ext {B : Nat} {w w' : World} {v : Value} {ad : List Ad} {ls : List Ln} {n m : Nat} (h : LnsV B w v ad ls n m) (he : Ext w w') : LnsV B w' v ad ls n m where
  len := h.len
  row := ownsRow_ext h.row he
  dim := h.dim
  x := fun hn i a b => (h.x hn i a b).ext he
  y := fun i a b => (h.y i a b).ext he
  own := h.own
  dis := h.dis
/-- With rows that are not empty they are lines in memory. -/
theorem LnsV.lns {B : Nat} {w : World} {g cap n m : Nat} {ad : List Ad} {ls : List Ln} (h : LnsV B w (slv g ls.length cap) ad ls n m) (hn : 0 < n) : Lns B w g ad ls := by
  have hl := World.ownsRow.lt h.row g rfl
  have hob : (slv g ls.length cap).ownBlock = some g := rfl
  have hc : ∀ i (a : i < ls.length) (b : i < ad.length), w.cell? ⟨g, 2 * i, none⟩ = some (slv ad[i].gx n ad[i].cx) ∧ w.cell? ⟨g, 2 * i + 1, none⟩ = some (slv ad[i].gy m ad[i].cy) := by
    intro i a b
    have hg := hdrs_get n m ad i b
    rw [xv_pos hn] at hg
    rw [World.ownsRow.cellAt h.row (2 * i) (by omega), World.ownsRow.cellAt h.row (2 * i + 1) (by omega)]
    exact hg
  refine ⟨h.len, hl.1, hl.2, fun o => World.ownsRow.frozenAt h.row o, fun i a b => ?_, fun i a b => ?_, h.x hn, h.y, fun i a => ?_, fun i j a b hij => ?_⟩
  · rw [(h.dim.get a).1]; exact (hc i a b).1
  · rw [(h.dim.get a).2]; exact (hc i a b).2
  · have := h.own i a
    rw [hob] at this
    exact ⟨fun e => (this.2 hn).1 (by rw [e]), fun e => this.1 (by rw [e]), (this.2 hn).2⟩
  · have := h.dis i j a b hij
    exact ⟨(this.2 hn).1, (this.2 hn).2.1, (this.2 hn).2.2, this.1⟩
end Go.Proofs.YthmhmkkcjlgbjaaGreatDoor
/- hermite: lines -/
namespace Go.Proofs.YthmhmkkcjlgbjaaGreatDoor
open Go.RowKit Go.Sort
theorem Tryz.infoLine : (Tryz.prog.info? 90).map (fun i => (i.zero, i.size, i.bytes)) = some (some (.agg #[.slice none 0 0, .slice none 0 0]), 2, 48) := by kernel_rfl
theorem xv_own (n g cap : Nat) : (xv n g cap).ownBlock = if n = 0 then none else some g := by
  unfold xv; split <;> rfl
theorem w6_frozen {Y W5 w6 : World} {T : Nat} {o : Obj} {row : Option Nat} (hW5 : Ext Y.drew W5) (t2 : Y.frozen? ⟨T, 0, none⟩ = false) (t3 : T < Y.heap.size) (hg : (W5.alloc o).grownBy w6 row) (hne : some T ≠ row) : w6.frozen? ⟨T, 0, none⟩ = false := by
  have h5 : T < W5.heap.size := Nat.lt_of_lt_of_le t3 hW5.size
  rw [hg.frozen_far ⟨T, 0, none⟩ (by simp; omega) hne, ((Ext.refl W5).alloc o).frozen h5, hW5.frozen t3]
  exact t2
theorem lrow_step {X Y W5 w6 : World} {T gy cy gx cx j L cap2 gg : Nat} {z : Int} {r u : List Int} (hjl : j < r.length) (hz : z = r.getD j 0) (hyT : gy < T) (hXT : X.heap.size ≤ T)
    (t1 : Y.cell? ⟨T, 1, none⟩ = some (slv gy L cy)) (t3 : T < Y.heap.size)
    (hOx : Y.ownsRow X.heap.size 38 1 (xv j gx cx) j (ss (r.take j))) (hNe : 0 < j → gx ≠ T ∧ gx ≠ gy) (hOy : OwnV 38 X.heap.size Y gy cy (ss u)) (hE : Ext X Y) (hW5 : Ext Y.drew W5)
    (hTo : some T ≠ (xv j gx cx).ownBlock)
    (hown6 : w6.ownsRow X.heap.size 38 1 (slv gg (j + 1) cap2) (j + 1) (ss (r.take j) ++ [I z])) (hgrow6 : (W5.alloc (.cells #[I z] 38)).grownBy w6 (xv j gx cx).ownBlock)
    (hat6 : (xv j gx cx).ownBlock = some gg ∨ gg = W5.heap.size + 1) (t6 : w6.cell? ⟨T, 0, none⟩ = some (xv j gx cx)) (f6 : w6.frozen? ⟨T, 0, none⟩ = false) :
    (w6.setCell ⟨T, 0, none⟩ (slv gg (j + 1) cap2)).cell? ⟨T, 0, none⟩ = some (xv (j + 1) gg cap2) ∧ (w6.setCell ⟨T, 0, none⟩ (slv gg (j + 1) cap2)).cell? ⟨T, 1, none⟩ = some (slv gy L cy) ∧ (w6.setCell ⟨T, 0, none⟩ (slv gg (j + 1) cap2)).frozen? ⟨T, 0, none⟩ = false
      ∧ T < (w6.setCell ⟨T, 0, none⟩ (slv gg (j + 1) cap2)).heap.size
      ∧ Hid ((w6.setCell ⟨T, 0, none⟩ (slv gg (j + 1) cap2)).ownsRow X.heap.size 38 1 (xv (j + 1) gg cap2) (j + 1) (ss (r.take (j + 1)))) ∧ Hid (0 < j + 1 → gg ≠ T ∧ gg ≠ gy)
      ∧ Hid (OwnV 38 X.heap.size (w6.setCell ⟨T, 0, none⟩ (slv gg (j + 1) cap2)) gy cy (ss u)) ∧ Hid (Ext X (w6.setCell ⟨T, 0, none⟩ (slv gg (j + 1) cap2))) := by
  have h5 : Y.heap.size ≤ W5.heap.size := hW5.size
  have hE5 : Ext Y (W5.alloc (.cells #[I z] 38)) := (((Ext.refl Y).drew).trans hW5).alloc _
  have hgT : gg ≠ T := by
    rcases hat6 with h | h
    · rw [h] at hTo; exact fun e => hTo (by rw [e])
    · omega
  have hgy : gg ≠ gy := by
    rcases hat6 with h | h
    · rw [xv_own] at h
      split at h
      · cases h
      · injection h with h; subst h; exact (hNe (by omega)).2
    · omega
  have hrow : ∀ q, (xv j gx cx).ownBlock = some q → X.heap.size ≤ q := fun q hq => (World.ownsRow.lt hOx q hq).1
  have hE6 : Ext X w6 := Ext.mk' (Below.grown (hE.trans hE5) hgrow6 (hE.trans hE5).size hrow)
  have hyo : (xv j gx cx).ownBlock ≠ some gy := by
    rw [xv_own]
    split
    · simp
    · intro e; injection e with e; exact (hNe (by omega)).2 e
  have hOy6 : OwnV 38 X.heap.size w6 gy cy (ss u) := World.ownsRow.kept (hOy.ext hE5) hgrow6 (.inr (fun e => hyo e.symm))
  have t16 : w6.cell? ⟨T, 1, none⟩ = some (slv gy L cy) := hgrow6.cell (hE5.cell t1) hTo
  have hTs : T < w6.heap.size := Nat.lt_of_lt_of_le t3 (Nat.le_trans hE5.size hgrow6.size)
  refine ⟨?_, ?_, ?_, ?_, Lib.hid ?_, Lib.hid (fun _ => ⟨hgT, hgy⟩), Lib.hid ?_, Lib.hid ?_⟩
  · rw [World.cell?_setCell_same (h := t6), xv_pos (by omega)]
  · rw [World.cell?_setCell_other (h := by simp)]; exact t16
  · rw [World.frozen?_setCell]; exact f6
  · simpa using hTs
  · rw [xv_pos (by omega)]
    have e : ss (r.take (j + 1)) = ss (r.take j) ++ [I z] := by
      rw [List.take_succ_eq_append_getElem hjl, hz, getD_get hjl]; simp only [ss, List.map_append, List.map_cons, List.map_nil]
    rw [e]
    exact World.ownsRow.kept hown6 (grown_set w6 T 0 _) (.inr (by intro e; injection e with e; exact hgT e))
  · exact hOy6.other (grown_set w6 T 0 _) (by omega)
  · exact hE6.setCell hXT _
theorem line_one (n g c g' m c' : Nat) : ∀ u ∈ [xv n g c, slv g' m c'], u.oneCell' = true := by
  intro u hu
  simp only [List.mem_cons, List.not_mem_nil, or_false] at hu
  rcases hu with rfl | rfl
  · unfold xv; split <;> rfl
  · rfl
theorem lline_step {w X Y w8 : World} {v : Value} {gx cx gy cy gg cap2 i n m : Nat} {ad : List Ad} {ls : List Ln} (hV : LnsV w.heap.size X v ad (ls.take i) n m) (hi : i < ls.length) (hE : Ext w X) (hE5 : Ext X Y)
    (hd : ls[i].1.length = n ∧ ls[i].2.length = m)
    (hOx : Y.ownsRow X.heap.size 38 1 (xv n gx cx) n (ss ls[i].1)) (hNe : 0 < n → gx ≠ gy) (hOy : OwnV 38 X.heap.size Y gy cy (ss ls[i].2))
    (hown8 : w8.ownsRow w.heap.size 90 2 (slv gg (i + 1) cap2) (i + 1) (hdrs n m ad ++ [xv n gx cx, slv gy m cy])) (hgrow8 : (Y.alloc (.cells #[xv n gx cx, slv gy m cy] 90)).grownBy w8 v.ownBlock)
    (hat8 : v.ownBlock = some gg ∨ gg = Y.heap.size + 1) :
    LnsV w.heap.size w8 (slv gg (i + 1) cap2) (ad ++ [⟨gx, cx, gy, cy⟩]) (ls.take (i + 1)) n m ∧ Ext w w8 := by
  have hle : (ls.take i).length = i := by rw [List.length_take]; omega
  have hal : ad.length = i := by rw [hV.len, hle]
  have hE8 : Ext X (Y.alloc (.cells #[xv n gx cx, slv gy m cy] 90)) := hE5.alloc _
  have hEY : Ext Y (Y.alloc (.cells #[xv n gx cx, slv gy m cy] 90)) := (Ext.refl Y).alloc _
  have hvb : ∀ q, v.ownBlock = some q → w.heap.size ≤ q ∧ q < X.heap.size := fun q hq => World.ownsRow.lt hV.row q hq
  have hwX := hE.size
  have hXY := hE5.size
  have hgy := hOy.lt
  have hgx : 0 < n → X.heap.size ≤ gx ∧ gx < Y.heap.size := fun h => World.ownsRow.lt hOx gx (by rw [xv_pos h]; rfl)
  have hoX : 0 < n → OwnV 38 X.heap.size Y gx cx (ss ls[i].1) := fun h => by
    have := hOx; rw [xv_pos h] at this; exact OwnV.of_row this
  have hold : ∀ t (h : t < (ls.take i).length) (h' : t < ad.length), ad[t].gy < X.heap.size ∧ (0 < n → ad[t].gx < X.heap.size) := fun t h h' => ⟨(hV.y t h h').lt.2, fun hn => (hV.x hn t h h').lt.2⟩
  have hgg : gg < X.heap.size ∨ Y.heap.size < gg := by
    rcases hat8 with h | h
    · exact .inl (hvb gg h).2
    · right; omega
  have hkeep : ∀ {g c : Nat} {l : List Int}, OwnV 38 w.heap.size X g c (ss l) → v.ownBlock ≠ some g → OwnV 38 w.heap.size w8 g c (ss l) := fun h hne =>
    World.ownsRow.kept (h.ext hE8) hgrow8 (.inr (fun e => hne e.symm))
  have hnew : ∀ {g c : Nat} {l : List Int}, OwnV 38 X.heap.size Y g c (ss l) → OwnV 38 w.heap.size w8 g c (ss l) := fun {g c l} h => by
    have hg := h.lt
    refine World.ownsRow.kept ((h.ext hEY).mono hwX) hgrow8 (.inr (fun e => ?_))
    have := (hvb g e.symm).2; omega
  have hgo : ∀ t (h' : t < ad.length), gg ≠ ad[t].gy ∧ (0 < n → gg ≠ ad[t].gx) := fun t h' => by
    have ho := hold t (by omega) h'
    have hw := hV.own t h'
    rcases hat8 with h | h
    · rw [h] at hw; exact ⟨fun e => hw.1 (by rw [e]), fun hn e => (hw.2 hn).1 (by rw [e])⟩
    · exact ⟨by omega, fun hn => by have := ho.2 hn; omega⟩
  have hl1 : (ls.take (i + 1)).length = i + 1 := by rw [List.length_take]; omega
  refine ⟨⟨?_, ?_, ?_, fun hn t a b => ?_, fun t a b => ?_, fun t a => ?_, fun s t a b hst => ?_⟩, ?_⟩
  · rw [List.length_append, hal, hl1]; rfl
  · rw [hl1, hdrs_snoc]; exact hown8
  · intro l hl
    obtain ⟨t, ht, rfl⟩ := List.getElem_of_mem hl
    rw [List.getElem_take]
    by_cases hti : t < i
    · have := hV.dim.get (i := t) (by omega)
      rw [List.getElem_take] at this; exact this
    · have : t = i := by omega
      subst this; exact hd
  · rw [hl1] at a
    by_cases hti : t < i
    · have := hV.x hn t (by omega) (by omega)
      rw [List.getElem_append_left (by omega), List.getElem_take]
      rw [List.getElem_take] at this
      exact hkeep this (((hV.own t (by omega)).2 hn).1)
    · have : t = i := by omega
      subst this
      rw [List.getElem_append_right (by omega), List.getElem_take]
      simp only [hal, Nat.sub_self, List.getElem_cons_zero]
      exact hnew (hoX hn)
  · rw [hl1] at a
    by_cases hti : t < i
    · have := hV.y t (by omega) (by omega)
      rw [List.getElem_append_left (by omega), List.getElem_take]
      rw [List.getElem_take] at this
      exact hkeep this (hV.own t (by omega)).1
    · have : t = i := by omega
      subst this
      rw [List.getElem_append_right (by omega), List.getElem_take]
      simp only [hal, Nat.sub_self, List.getElem_cons_zero]
      exact hnew hOy
  · have hob : (slv gg (i + 1) cap2).ownBlock = some gg := rfl
    rw [hob]
    rw [List.length_append, hal] at a
    by_cases hti : t < i
    · rw [List.getElem_append_left (by omega)]
      have h1 := hgo t (by omega)
      exact ⟨fun e => h1.1 (by injection e), fun hn => ⟨fun e => h1.2 hn (by injection e), ((hV.own t (by omega)).2 hn).2⟩⟩
    · have : t = i := by simp at a; omega
      subst this
      rw [List.getElem_append_right (by omega)]
      simp only [hal, Nat.sub_self, List.getElem_cons_zero]
      refine ⟨fun e => ?_, fun hn => ⟨fun e => ?_, hNe hn⟩⟩
      · injection e with e; omega
      · injection e with e; have := hgx hn; omega
  · rw [List.length_append, hal] at a b
    simp only [List.length_cons, List.length_nil] at a b
    by_cases hsi : s < i
    · by_cases hti : t < i
      · rw [List.getElem_append_left (by omega), List.getElem_append_left (by omega)]
        exact hV.dis s t (by omega) (by omega) hst
      · have : t = i := by omega
        subst this
        rw [List.getElem_append_left (by omega), List.getElem_append_right (by omega)]
        simp only [hal, Nat.sub_self, List.getElem_cons_zero]
        have ho := hold s (by omega) (by omega)
        exact ⟨by omega, fun hn => ⟨by have := hgx hn; have := ho.2 hn; omega, by have := ho.2 hn; omega, by have := hgx hn; omega⟩⟩
    · have : s = i := by omega
      subst this
      have hti : t < s := by omega
      rw [List.getElem_append_right (by omega), List.getElem_append_left (by omega)]
      simp only [hal, Nat.sub_self, List.getElem_cons_zero]
      have ho := hold t (by omega) (by omega)
      exact ⟨by omega, fun hn => ⟨by have := hgx hn; have := ho.2 hn; omega, by have := hgx hn; omega, by have := ho.2 hn; omega⟩⟩
  · exact Ext.mk' (Below.grown (hE.trans hE8) hgrow8 (hE.trans hE8).size (fun q hq => (hvb q hq).1))
set_option maxRecDepth 100000 in
set_option maxHeartbeats 1000000 in
theorem lines_any {w : World} {v : Value} {M : Mx} {n : Nat} (hM : MatR w v M) (hR : Rect n M) (hl : M.length ≤ 1000000) (hn : n ≤ 1000000) (h64 : ∀ r ∈ M, ∀ z ∈ r, I64 z) (hL : Laid w) :
    Calls Tryz.prog 46 #[v] w fun e w' => ∃ v' ad, e = .returned v' ∧ LnsV w.heap.size w' v' ad (lines0 M) n M.length ∧ Ext w w' := by
  obtain ⟨sa, gb, go, cap, vs, rfl, hcap, hvl, hS, hr⟩ := hM
  obtain ⟨i0, hi, hz0, hz1, hz2⟩ := info_parts Tryz.infoLine
  obtain ⟨s0, hs, hy0, hy1, hy2⟩ := info_parts Tryz.infoStr
  have HS := Lib.hid hS
  have HV := Lib.hid hvl
  have HR := Lib.hid hr
  have HRt := Lib.hid hR
  have H64 := Lib.hid h64
  have HL := Lib.hid hL
  clear hS hvl hr hR h64 hL
  go_enter Tryz.func46, Tryz.ntmps46
  go_wp2_with fail
  go_loopw [3, 11] (fun out idx wr => ∃ (i : Nat) (ad : List Ad), i ≤ M.length ∧ idx = .int .i64 i ∧ LnsV w.heap.size wr out ad ((lines0 M).take i) n M.length ∧ Ext w wr) (fun _ idx _ => M.length - (intOf idx).toNat)
  case atStart => exact ⟨0, [], by omega, by go_num, LnsV.nil _ _ _ _, Ext.refl _⟩
  case round =>
    obtain ⟨i, ad, hi', rfl, hV, hE⟩ := hrel
    generalize wr = X at *
    by_cases hlt : i < M.length
    · have hii : (i : Int) < (M.length : Int) := by omega
      obtain rfl := HS.out.addr (by rw [HV.out]; omega)
      obtain ⟨sr, br, or, cr, hrow, hrc, hSr⟩ := MatR.row HS.out HV.out HR.out hlt
      rw [HRt.out _ (List.getElem_mem hlt)] at hrow hrc
      have hrow' := hE.cell hrow
      have hrep := Lib.hid (fun W (hW : W.cell? ⟨X.heap.size, 0, none⟩ = some (I 0)) => repeat_any (m := M.length) hl (b := X.heap.size) (o := 0) (c := 1) (z := 0) (w := W) hW)
      clear hrow
      go_wp2_with fail
      have hz1 : I 0 = .string ⟨#[48]⟩ := by unfold I S; rw [itoa_zero]
      have hz49 : I 1 = .string ⟨#[49]⟩ := by unfold I S; rw [show (1 : Int) = ((1 : Nat) : Int) from rfl, itoa_nat, Lib.decDigits]; rfl
      have Hz49 := Lib.hid hz49
      refine (hrep.out _ (by rw [hz1]; go_simp)).mono ?_
      rintro e W1 ⟨gy, cy, rfl, hY, hE1⟩
      clear hrep hz1 hz49
      have hE2 := ((Ext.refl X).alloc (.cells #[.string ⟨#[48]⟩] 38)).trans hE1
      have hYb : X.heap.size < gy := by have := hY.lt.1; simp at this; omega
      have hYT := hY.lt.2
      have y1 := hY.cell (j := i) (by simpa using hlt)
      have y2 := hY.frozen i
      obtain ⟨hY3, hG3⟩ := hY.set i (I 1)
      rw [← ss_set, Hz49.out] at hY3
      rw [Hz49.out] at hG3
      have hE3 := (ext_trans_grown hE2 hG3 (by omega)).alloc (.cells #[.slice none 0 0, slv gy M.length cy] 90)
      have hY4 := hY3.ext ((Ext.refl _).alloc (.cells #[.slice none 0 0, slv gy M.length cy] 90))
      have hY5 : OwnV 38 X.heap.size ((W1.setCell ⟨gy, i, none⟩ (.string ⟨#[49]⟩)).alloc (.cells #[.slice none 0 0, slv gy M.length cy] 90)) gy cy (ss (unitR M.length i)) := hY4.mono (by simp)
      have t0 := show ((W1.setCell ⟨gy, i, none⟩ (.string ⟨#[49]⟩)).alloc (.cells #[.slice none 0 0, slv gy M.length cy] 90)).cell? ⟨W1.heap.size, 0, none⟩ = some (xv 0 0 0) by rw [xv_zero]; go_simp
      have t1 := show ((W1.setCell ⟨gy, i, none⟩ (.string ⟨#[49]⟩)).alloc (.cells #[.slice none 0 0, slv gy M.length cy] 90)).cell? ⟨W1.heap.size, 1, none⟩ = some (slv gy M.length cy) by go_simp
      have t2 := show ((W1.setCell ⟨gy, i, none⟩ (.string ⟨#[49]⟩)).alloc (.cells #[.slice none 0 0, slv gy M.length cy] 90)).frozen? ⟨W1.heap.size, 0, none⟩ = false by go_simp
      have t3 := show W1.heap.size < ((W1.setCell ⟨gy, i, none⟩ (.string ⟨#[49]⟩)).alloc (.cells #[.slice none 0 0, slv gy M.length cy] 90)).heap.size by simp
      have hXT : X.heap.size ≤ W1.heap.size := hE2.size
      clear hY hY3 hY4 hG3
      go_wp2_with fail
      generalize hW2 : World.alloc (World.setCell _ _ _) _ = W2 at *
      clear hW2 y1 y2 hE1 hE2
      generalize W1.heap.size = T at *
      go_loopw [27] (fun idx wr => ∃ (j gx cx : Nat), j ≤ n ∧ idx = .int .i64 j ∧ wr.cell? ⟨T, 0, none⟩ = some (xv j gx cx) ∧ wr.cell? ⟨T, 1, none⟩ = some (slv gy M.length cy) ∧ wr.frozen? ⟨T, 0, none⟩ = false ∧ T < wr.heap.size ∧
        Hid (wr.ownsRow X.heap.size 38 1 (xv j gx cx) j (ss (M[i].take j))) ∧ Hid (0 < j → gx ≠ T ∧ gx ≠ gy) ∧ Hid (OwnV 38 X.heap.size wr gy cy (ss (unitR M.length i))) ∧ Hid (Ext X wr)) (fun idx _ => n - (intOf idx).toNat)
      case atStart => exact ⟨0, 0, 0, by omega, by go_num, t0, t1, t2, t3, Lib.hid ⟨rfl, .inl ⟨rfl, rfl⟩⟩, Lib.hid (fun h => by omega), Lib.hid hY5, Lib.hid hE3⟩
      case round =>
        clear t0 t1 t2 t3 hY5 hE3
        obtain ⟨j, gx, cx, hj, rfl, t0, t1, t2, t3, hOx, hNe, hOy, hE5⟩ := hrel
        generalize wr = Y at *
        by_cases hjl : j < n
        · have hji : (j : Int) < (n : Int) := by omega
          have hrl : M[i].length = n := HRt.out _ (List.getElem_mem hlt)
          have Hrl := Lib.hid hrl
          obtain ⟨z, hz⟩ : ∃ z, z = M[i].getD j 0 := ⟨_, rfl⟩
          have hcz := hSr.cell j (.int .i64 z) (by rw [hz, getD_get (by omega)]; exact is_get (by omega))
          have hz64 := H64.out _ (List.getElem_mem hlt) z (by rw [hz, getD_get (by omega)]; exact List.getElem_mem _)
          have hcz2 := hE5.out.cell (hE.cell hcz)
          obtain rfl := hSr.addr (by simp; omega)
          have hof := Lib.hid (fun W (hW : Ext Y W) => wholeOf_any (n := z) (w := W) hz64.1 hz64.2 (HL.out.ext (hE.trans (hE5.out.trans hW))))
          have Hz := Lib.hid hz
          have hTo : some T ≠ (xv j gx cx).ownBlock := by
            rw [xv_own]
            split
            · simp
            · have := hNe.out (by omega); intro e; injection e with e; exact this.1 e.symm
          have HTo := Lib.hid hTo
          have hXY := hE5.out.size
          clear hTo
          clear hz hz64 hcz hrl
          go_wp2_with fail
          go_region_law (first
              | (go_simp; go_at_call 54; refine (hof.out _ ((Ext.refl _).drew)).mono ?_; rintro e W5 ⟨rfl, hW5⟩; have t5 := hW5.cell (show (World.drew Y).cell? ⟨T, 0, none⟩ = some (xv j gx cx) from t0); have t5s : T < W5.heap.size := Nat.lt_of_lt_of_le t3 hW5.size; have t5y : Y.heap.size ≤ W5.heap.size := hW5.size)
              | (refine step_append_lies _ (by rfl) _ _ _ (by rfl) X.heap.size 38 s0 _ 1 16 Tryz.underlying88 hs hy0 hy1 hy2 rfl (by omega) (xv j gx cx) j (ss (M[i].take j)) (by rfl) ((ownsRow_ext (ownsRow_ext hOx.out ((Ext.refl _).drew)) hW5).alloc _) ⟨W5.heap.size, 0, none⟩ 1 1 [I z] (by rfl) (by rfl) (cell_one_new _ _ _) (one_str _) (by omega) (by unfold maxLen; omega) (by omega) (by simp; omega) (W5.heap.size + 1) (by simp) ?_; intro gg cap2 w6 hown6 hgrow6 hat6 hlt6; have t6 := hgrow6.cell (((Ext.refl W5).alloc (.cells #[I z] 38)).cell t5) HTo.out; have f6 := w6_frozen hW5 t2 t3 hgrow6 HTo.out))
          all_goals
            have hst := lrow_step (L := M.length) (by rw [Hrl.out]; exact hjl) Hz.out hYT hXT t1 t3 hOx.out hNe.out hOy.out hE5.out hW5 HTo.out hown6 hgrow6 hat6 t6 f6
            generalize hw7 : World.setCell w6 _ _ = w7 at *
            obtain ⟨r0, r1, r2, r3, r4, r5, r6, r7⟩ := hst
            clear hw7 hown6 hgrow6 hat6 t6 f6 hlt6 t5 t5s
            go_wp2_with fail
            go_roundw
            case rel => exact ⟨j + 1, gg, cap2, by omega, by go_num, r0, r1, r2, r3, r4, r5, r6, r7⟩
            case measure => simp [intOf] <;> omega
        · have hjn : j = n := by omega
          have Hjn := Lib.hid hjn
          have hil : (List.take i (lines0 M)).length = i := by rw [List.length_take, lines0_length]; omega
          have hVr := hV.row
          rw [hil] at hVr
          have HVr := Lib.hid (ownsRow_ext hVr hE5.out)
          have hYw : w.heap.size ≤ Y.heap.size + 1 := by have := hE.size; have := hE5.out.size; omega
          clear hjn hVr hil
          go_wp2_with (at_builtin; refine wpList_append_lies _ rfl _ _ 84 rfl w.heap.size 90 i0 _ 2 48 Tryz.underlying84 hi hz0 hz1 hz2 rfl (by omega) _ i (hdrs n M.length ad) rfl (HVr.out.alloc _) ⟨Y.heap.size, 0, none⟩ 1 1 [xv j gx cx, slv gy M.length cy] rfl rfl (World.news_of_block (cs := #[xv j gx cx, slv gy M.length cy]) (t := 90) (fr := (0, 0)) (heap_alloc_new Y _)) (line_one _ _ _ _ _ _) (by omega) (by unfold maxLen; omega) (by omega) (by simpa using hYw) (Y.heap.size + 1) (by simp) ?_; intro gg cap2 w8 hown8 hgrow8 hat8 hlt8)
          have hst : LnsV w.heap.size w8 (slv gg (i + 1) cap2) (ad ++ [⟨gx, cx, gy, cy⟩]) ((lines0 M).take (i + 1)) n M.length ∧ Ext w w8 := by
            have hjn := Hjn.out
            subst hjn
            have hil : i < (lines0 M).length := by simpa using hlt
            have hrl : M[i].length = j := HRt.out _ (List.getElem_mem hlt)
            refine lline_step hV hil hE hE5.out ?_ ?_ (fun h => (hNe.out h).2) ?_ hown8 hgrow8 hat8
            · rw [lines0_get hlt]; exact ⟨hrl, by simp [unitR]⟩
            · rw [lines0_get hlt]
              have := hOx.out
              rw [List.take_of_length_le (by omega)] at this
              exact this
            · rw [lines0_get hlt]; exact hOy.out
          obtain ⟨hV8, hE8⟩ := hst
          clear hown8 hgrow8 hat8 hlt8
          go_wp2_with fail
          go_roundw
          case rel => exact ⟨i + 1, _, by omega, by go_num, hV8, hE8⟩
          case measure => simp [intOf] <;> omega
    · have hie : i = M.length := by omega
      subst hie
      go_wp2_with fail
      go_ret
      exact ⟨_, ad, rfl, by rw [List.take_of_length_le (by simp)] at hV; exact hV, hE⟩
end Go.Proofs.YthmhmkkcjlgbjaaGreatDoor
