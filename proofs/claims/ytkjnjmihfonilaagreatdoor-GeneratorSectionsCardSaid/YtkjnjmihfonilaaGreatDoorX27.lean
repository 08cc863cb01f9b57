/- Part 27 of the proof of the claim: contracts of the functions that it reaches, and plain laws; no condition. -/
import Derived.Test.YtkjnjmihfonilaaGreatDoorX26
import Derived.Test.YtkjnjmihfonilaaGreatDoorX11
import Derived.Test.YtkjnjmihfonilaaGreatDoorX23
namespace Go.Proofs.YtkjnjmihfonilaaGreatDoor
open Go.RowKit Go.Sort
theorem bgE_ok {n : Nat} {x : List Int} (h : bgE n x = 0) : chkRow x = 0 ∧ x.length = n := by
  unfold bgE at h
  split at h
  · rename_i h1
    split at h
    · rename_i h2; exact ⟨h1, h2⟩
    · cases h
  · rename_i h1; exact absurd h h1
def TpPost (w : World) (np : Nat) (M : Mx) (x : List Int) (e : Ending) (w' : World) : Prop :=
  Ext w w' ∧ ((bgE np x = 0 ∧ smallB (tmpL M x) = true ∧ ∃ v, e = .returned (.tuple #[v, .int .i64 0]) ∧ RowV w.heap.size w' v (tmpL M x)) ∨ (bgE np x = 0 ∧ smallB (tmpL M x) = false ∧ e = .returned (.tuple #[.slice none 0 0, .int .i64 4])) ∨ (bgE np x ≠ 0 ∧ e = .returned (.tuple #[.slice none 0 0, .int .i64 (bgE np x)])))
theorem tmpL_nd {M : Mx} {x : List Int} (hx : ∀ z ∈ x, -1000000000 ≤ z ∧ z ≤ 1000000000) (hM : SmK M) (hl : x.length ≤ 64) : ∀ z ∈ tmpL M x, nd z ≤ 67 := fun z hz => by
  obtain ⟨v, hv, rfl⟩ := List.mem_map.1 hz
  exact tmpT_b hx (hM v hv) hl
set_option maxRecDepth 100000 in
set_option maxHeartbeats 4000000 in
theorem Temper_any {w : World} {P : List Int} {C M : Mx} {sp : Option Addr} {cp : Nat} {sc : Option Addr} {lc cc : Nat} {sm : Option Addr} {lm cm : Nat} {sx : Option Addr} {n cx : Nat} {x : List Int} (h : TmV w P C M M sp cp sc lc cc sm lm cm) (hx : RowR w (.slice sx n cx) x) (hL : Laid w) :
    Calls Tryz.prog 22 #[tmS P sp cp sc lc cc sm lm cm, .slice sx n cx] w (TpPost w P.length M x) := by
  have hbe := fun W b (hW : Ext w W) (hc : W.cell? ⟨b, 0, none⟩ = some (.slice sx n cx)) => begin1_any (b := b) (h.ext hW) hc (hx.ext hW) (hL.ext hW)
  have hX := (Ext.refl w).alloc (.cells #[.slice sp P.length cp, .slice sc lc cc, .slice sm lm cm] 34)
  have x0 : (w.alloc (.cells #[.slice sp P.length cp, .slice sc lc cc, .slice sm lm cm] 34)).cell? ⟨w.heap.size, 0, none⟩ = some (.slice sp P.length cp) := by go_simp
  have x1 : (w.alloc (.cells #[.slice sp P.length cp, .slice sc lc cc, .slice sm lm cm] 34)).cell? ⟨w.heap.size, 1, none⟩ = some (.slice sc lc cc) := by go_simp
  have x2 : (w.alloc (.cells #[.slice sp P.length cp, .slice sc lc cc, .slice sm lm cm] 34)).cell? ⟨w.heap.size, 2, none⟩ = some (.slice sm lm cm) := by go_simp
  have hsz : w.heap.size ≤ (w.alloc (.cells #[.slice sp P.length cp, .slice sc lc cc, .slice sm lm cm] 34)).heap.size := by simp
  have xb : ((w.alloc (.cells #[.slice sp P.length cp, .slice sc lc cc, .slice sm lm cm] 34)).alloc (.cells #[.slice sx n cx] 26)).cell? ⟨w.heap.size + 1, 0, none⟩ = some (.slice sx n cx) := by go_simp
  by_cases hb : bgE P.length x = 0
  · obtain ⟨hcx, hlx⟩ := bgE_ok hb
    obtain ⟨hx64, hxb⟩ := chkRow_ok hcx
    obtain ⟨psM, hIM⟩ := h.ok.kM.1
    have hlM := isH_len hIM
    have hp4 := h.ok.p4
    have hte := Lib.hid (fun W (hW : Ext w W) => temper_any (h.ext hW) (hx.ext hW) hcx hlx (hL.ext hW))
    rw [hb] at hbe
    have Hbe := Lib.hid hbe
    have Hnd := Lib.hid (tmpL_nd hxb h.ok.sM hx64)
    have HL := Lib.hid hL
    have Hb := Lib.hid hb
    have hlen : (tmpL M x).length ≤ 4 := by rw [tmpL_length]; omega
    clear hcx hlx hx64 hxb hIM hlM hp4 hbe hb h hx hL
    obtain ⟨l, hl⟩ : ∃ l, l = tmpL M x := ⟨_, rfl⟩
    rw [← hl] at hte Hnd hlen
    have Hl := Lib.hid hl
    clear hl
    go_enter Tryz.func22, Tryz.ntmps22
    go_wp2_with fail
    refine (Hbe.out _ (w.heap.size + 1) (hX.alloc (.cells #[.slice sx n cx] 26)) xb).mono ?_
    generalize w.alloc (.cells #[.slice sp P.length cp, .slice sc lc cc, .slice sm lm cm] 34) = V at *
    rintro e X ⟨rfl, hE1⟩
    have y0 := hE1.cell (((Ext.refl V).alloc (.cells #[.slice sx n cx] 26)).cell x0)
    have y1 := hE1.cell (((Ext.refl V).alloc (.cells #[.slice sx n cx] 26)).cell x1)
    have y2 := hE1.cell (((Ext.refl V).alloc (.cells #[.slice sx n cx] 26)).cell x2)
    have e1 := (hX.alloc (.cells #[.slice sx n cx] 26)).trans hE1
    clear x0 x1 x2 xb Hbe hX hE1
    go_wp2_with fail
    refine (hte.out _ e1).mono ?_
    rintro e X2 ⟨v1, rfl, hv1, hE2⟩
    obtain ⟨ga, gb, cap, rfl, hcap, hS⟩ := hv1.sl
    have HS := Lib.hid hS
    have e2 := e1.trans hE2
    clear hv1 hS hte hE2 y0 y1 y2
    go_wp2_with fail
    go_loopw [7, 23] (fun out idx wr => ∃ i : Nat, i ≤ l.length ∧ idx = .int .i64 i ∧ Hid (RowV X2.heap.size wr out (l.take i)) ∧ Hid (∀ j (h : j < l.length), j < i → grt l[j] = false) ∧ Ext X2 wr) (fun _ idx _ => l.length - (intOf idx).toNat)
    case atStart => exact ⟨0, by omega, by go_num, Lib.hid (by rw [List.take_zero]; exact RowV.nil _ _), Lib.hid (fun j _ h => by omega), Ext.refl _⟩
    case round =>
      obtain ⟨i, hi', rfl, HO, Hz, hE⟩ := hrel
      generalize wr = Y at *
      by_cases hlt : i < l.length
      · have hii : (i : Int) < (l.length : Int) := by omega
        obtain ⟨z, hz⟩ : ∃ z, z = l[i] := ⟨_, rfl⟩
        have hc := hE.cell (HS.out.cell i (I z) (by rw [hz]; simp [ss, hlt]))
        rw [Nat.zero_add] at hc
        obtain rfl := HS.out.addr (by simp; omega)
        have hsm := Lib.hid (wholeSmall_any (z := z) (w := Y) (by have := Hnd.out z (by rw [hz]; exact List.getElem_mem hlt); unfold LIM; omega) (HL.out.ext (e2.trans hE)))
        have Hzz := Lib.hid hz
        have Hil := Lib.hid (show (l.take i).length = i by rw [List.length_take]; omega)
        have Htk := Lib.hid (show l.take (i + 1) = l.take i ++ [z] by rw [List.take_succ_eq_append_getElem hlt, hz])
        have hYs := hE.size
        cases hgz : grt z
        · have hzb : -1000000000 ≤ z ∧ z ≤ 1000000000 := by
            unfold grt at hgz; have := of_decide_eq_false hgz; omega
          have hin : inI64 z = true := decide_eq_true (by omega)
          rw [hin, if_pos rfl] at hsm
          obtain ⟨hy1, hy2⟩ := hzb
          have Hgz := Lib.hid hgz
          clear hin hgz hz
          go_wp2_with fail
          refine hsm.out.mono ?_
          rintro e W ⟨rfl, hW⟩
          have HOW := Lib.hid (HO.out.ext hW)
          have hWs := (hE.trans hW).size
          have hEW := hE.trans hW
          clear HO hsm hW
          go_wp2_with (at_builtin; refine app_int rfl _ _ 26 Tryz.underlying26 rfl rfl (HOW.out.ext ((Ext.refl _).alloc _)) rfl (b := W.heap.size) (z := z) (by go_simp) (by rw [Hil.out]; omega) (by simp; omega) ?_; intro gg cap2 w8 hO8 hB8 hG8; rw [Hil.out] at hO8 ⊢; rw [← Htk.out] at hO8)
          have hE8 : Ext X2 w8 := Below.trans (hEW.alloc (.cells #[.int .i64 z] 3)) hB8
          have HO8 := Lib.hid hO8
          clear hG8 hB8 hO8
          go_wp2_with fail
          go_roundw
          case rel => exact ⟨i + 1, by omega, by go_num, HO8, Lib.hid (fun j h hj => by
            by_cases e : j = i
            · subst e; rw [← Hzz.out]; exact Hgz.out
            · exact Hz.out j h (by omega)), hE8⟩
          case measure => simp [intOf] <;> omega
        · have Hno := Lib.hid (small_not hlt (by rw [← hz]; exact hgz))
          have hzb : 1000000000 < z ∨ z < -1000000000 := by
            unfold grt at hgz; exact of_decide_eq_true hgz
          clear hgz hz
          have hfin : ∀ W, Ext Y W → TpPost w P.length M x (.returned (.tuple #[.slice none 0 0, .int .i64 4])) W := fun W hW => ⟨(e2.trans hE).trans hW, .inr (.inl ⟨Hb.out, by rw [← Hl.out]; exact Hno.out, rfl⟩)⟩
          have Hfin := Lib.hid hfin
          clear hfin
          cases hin : inI64 z
          · rw [hin, if_neg (by decide)] at hsm
            clear hin hzb
            go_wp2_with fail
            refine hsm.out.mono ?_
            rintro e W ⟨rfl, hW⟩
            go_wp2_with fail
            go_ret2
            exact Hfin.out _ hW
          · rw [hin, if_pos rfl] at hsm
            clear hin
            rcases hzb with hzb | hzb
            · go_wp2_with fail
              refine hsm.out.mono ?_
              rintro e W ⟨rfl, hW⟩
              go_wp2_with fail
              go_ret2
              exact Hfin.out _ hW
            · have hzc : z ≤ 1000000000 := by omega
              go_wp2_with fail
              refine hsm.out.mono ?_
              rintro e W ⟨rfl, hW⟩
              go_wp2_with fail
              go_ret2
              exact Hfin.out _ hW
      · obtain rfl : i = l.length := by omega
        have HF := Lib.hid (show RowV X2.heap.size Y u7 l by have := HO.out; rw [List.take_length] at this; exact this)
        have Hs := Lib.hid (show smallB l = true from small_yes (fun j hj => Hz.out j hj hj))
        have hs2 := e2.size
        go_wp2_with fail
        go_ret2
        exact ⟨e2.trans hE, .inl ⟨Hb.out, by rw [← Hl.out]; exact Hs.out, _, rfl, by rw [← Hl.out]; exact HF.out.mono hs2⟩⟩
  · have Hbe := Lib.hid hbe
    obtain ⟨z, hz⟩ : ∃ z, z = bgE P.length x := ⟨_, rfl⟩
    have Hfin := Lib.hid (show ∀ W, Ext w W → TpPost w P.length M x (.returned (.tuple #[.slice none 0 0, .int .i64 z])) W from fun W hW => ⟨hW, .inr (.inr ⟨hb, by rw [hz]⟩)⟩)
    rw [← hz] at hbe hb
    have Hbe := Lib.hid hbe
    have h2 : (z == 0) = false := beq_eq_false_iff_ne.2 hb
    have h3 : (z != 0) = true := by simp [bne, h2]
    clear hz h hx hL hbe
    go_enter Tryz.func22, Tryz.ntmps22
    go_wp2_with fail
    refine (Hbe.out _ (w.heap.size + 1) (hX.alloc (.cells #[.slice sx n cx] 26)) xb).mono ?_
    generalize w.alloc (.cells #[.slice sp P.length cp, .slice sc lc cc, .slice sm lm cm] 34) = V at *
    rintro e X ⟨rfl, hE1⟩
    have e1 := (hX.alloc (.cells #[.slice sx n cx] 26)).trans hE1
    go_wp2_with fail
    go_ret2
    exact Hfin.out _ e1
end Go.Proofs.YtkjnjmihfonilaaGreatDoor
namespace Go.Proofs.YtkjnjmihfonilaaGreatDoor
open Go.RowKit Go.Sort
set_option maxRecDepth 100000 in
theorem gsized_any {w : World} {sx : Option Addr} {n cx m : Nat} {x : List Int} (hx : RowR w (.slice sx n cx) x) :
    Calls Tryz.prog 40 #[.slice sx n cx, .int .i64 m] w fun e w' => e = .returned (.int .i64 (bgE m x)) ∧ Ext w w' := by
  have hrc := rowCheck_any hx
  have hn : n = x.length := by obtain ⟨_, _, _, _, e, _, _⟩ := hx; injection e
  obtain ⟨z, hz⟩ : ∃ z, z = chkRow x := ⟨_, rfl⟩
  have hbg : bgE m x = if z = 0 then (if n = m then 0 else 5) else z := by rw [hz, hn]; rfl
  rw [hbg]
  rw [← hz] at hrc
  have hr := Lib.hid hrc
  clear hz hbg hrc hx hn
  by_cases hz : z = 0
  · subst hz
    by_cases hn : n = m
    · subst hn
      rw [if_pos rfl, if_pos rfl]
      go_enter Tryz.func40, Tryz.ntmps40
      go_wp2_with fail
      refine hr.out.mono ?_
      rintro e W ⟨rfl, hE2⟩
      go_wp2_with fail
      go_ret
      exact ⟨rfl, hE2⟩
    · have h1 : ¬ ((n : Int) = (m : Int)) := by omega
      have h2 : ((n : Int) == (m : Int)) = false := beq_eq_false_iff_ne.2 h1
      have h3 : ((n : Int) != (m : Int)) = true := by simp [bne, h2]
      rw [if_pos rfl, if_neg hn]
      clear hn
      go_enter Tryz.func40, Tryz.ntmps40
      go_wp2_with fail
      refine hr.out.mono ?_
      rintro e W ⟨rfl, hE2⟩
      go_wp2_with fail
      go_ret
      exact ⟨rfl, hE2⟩
  · have h2 : (z == 0) = false := beq_eq_false_iff_ne.2 hz
    have h3 : (z != 0) = true := by simp [bne, h2]
    rw [if_neg hz]
    go_enter Tryz.func40, Tryz.ntmps40
    go_wp2_with fail
    refine hr.out.mono ?_
    rintro e W ⟨rfl, hE2⟩
    go_wp2_with fail
    go_ret
    exact ⟨rfl, hE2⟩
def twE (M : Mx) : Int := if M.length = 2 then (if eM M 0 0 = 0 then 26 else 0) else 5
set_option maxRecDepth 100000 in
set_option maxHeartbeats 4000000 in
theorem gtwo_any {w : World} {P : List Int} {C M : Mx} {sp : Option Addr} {cp : Nat} {sc : Option Addr} {lc cc : Nat} {sm : Option Addr} {lm cm : Nat} (h : TmV w P C M M sp cp sc lc cc sm lm cm) (hL : Laid w) :
    Calls Tryz.prog 65 #[tmS P sp cp sc lc cc sm lm cm] w fun e w' => e = .returned (.int .i64 (twE M)) ∧ Ext w w' := by
  have hck := Lib.hid (fun W (hW : Ext w W) => tCheck_any (h.ext hW) (hL.ext hW))
  rw [tmE_same] at hck
  obtain ⟨psM, hIM⟩ := h.ok.kM.1
  have hp0 := h.ok.p0
  obtain ⟨sm', gm, om, cm', vs, em, hmc, hvl, hSm, hrm⟩ := h.hM
  injection em with q4 q5 q6
  subst q4 q6
  have HrM := Lib.hid hIM.rect
  have hX := (Ext.refl w).alloc (.cells #[.slice sp P.length cp, .slice sc lc cc, .slice sm lm cm] 34)
  have x0 : (w.alloc (.cells #[.slice sp P.length cp, .slice sc lc cc, .slice sm lm cm] 34)).cell? ⟨w.heap.size, 0, none⟩ = some (.slice sp P.length cp) := by go_simp
  have x1 : (w.alloc (.cells #[.slice sp P.length cp, .slice sc lc cc, .slice sm lm cm] 34)).cell? ⟨w.heap.size, 1, none⟩ = some (.slice sc lc cc) := by go_simp
  have x2 : (w.alloc (.cells #[.slice sp P.length cp, .slice sc lc cc, .slice sm lm cm] 34)).cell? ⟨w.heap.size, 2, none⟩ = some (.slice sm lm cm) := by go_simp
  by_cases hl : lm = 2
  · subst hl
    have hM2 : M.length = 2 := q5.symm
    obtain ⟨sr, br, or, cr, hrow, hrc, hSr⟩ := MatR.row hSm hvl hrm (show 0 < M.length by omega)
    obtain rfl := hSm.addr (by omega)
    have hr0 : M[0].length = P.length := HrM.out _ (List.getElem_mem _)
    obtain ⟨z, hz⟩ : ∃ z, z = eM M 0 0 := ⟨_, rfl⟩
    have htw : twE M = if z = 0 then 26 else 0 := by unfold twE; rw [if_pos hM2, hz]
    rw [htw]
    have hcz : w.cell? ⟨br, or, none⟩ = some (.int .i64 z) := by
      have := hSr.cell 0 (.int .i64 z) (by
        rw [hz]; unfold eM
        rw [getD_get (show 0 < M.length by omega), getD_get (show 0 < M[0].length by omega)]
        exact is_get (by omega))
      simpa using this
    obtain rfl := hSr.addr (by simp; omega)
    rw [hr0] at hrow hrc
    rw [Nat.add_zero] at hrow
    have hrowX := hX.cell hrow
    have hczX := hX.cell hcz
    have hpI : (0 : Int) < (P.length : Int) := by omega
    clear htw hz hM2 hrm hSm hvl hIM h hL hrow hcz hSr q5 hr0
    by_cases hz : z = 0
    · subst hz
      rw [if_pos rfl]
      go_enter Tryz.func65, Tryz.ntmps65
      go_wp2_with fail
      refine (hck.out _ hX).mono ?_
      rintro e X ⟨rfl, hE1⟩
      have y2 := hE1.cell x2
      have yr := hE1.cell hrowX
      have yz := hE1.cell hczX
      have e1 := hX.trans hE1
      clear x0 x1 x2 hrowX hczX hE1
      go_wp2_with fail
      go_ret
      exact ⟨rfl, e1⟩
    · have hzb : (z == 0) = false := beq_eq_false_iff_ne.2 hz
      rw [if_neg hz]
      go_enter Tryz.func65, Tryz.ntmps65
      go_wp2_with fail
      refine (hck.out _ hX).mono ?_
      rintro e X ⟨rfl, hE1⟩
      have y2 := hE1.cell x2
      have yr := hE1.cell hrowX
      have yz := hE1.cell hczX
      have e1 := hX.trans hE1
      clear x0 x1 x2 hrowX hczX hE1
      go_wp2_with fail
      go_ret
      exact ⟨rfl, e1⟩
  · have htw : twE M = 5 := by unfold twE; rw [if_neg (by omega)]
    have h1 : ¬ ((lm : Int) = 2) := by omega
    have h2 : ((lm : Int) == 2) = false := beq_eq_false_iff_ne.2 h1
    have h3 : ((lm : Int) != 2) = true := by simp [bne, h2]
    rw [htw]
    clear htw hrm hSm hvl hIM h hL q5 hl hmc hp0
    go_enter Tryz.func65, Tryz.ntmps65
    go_wp2_with fail
    refine (hck.out _ hX).mono ?_
    rintro e X ⟨rfl, hE1⟩
    have y2 := hE1.cell x2
    have e1 := hX.trans hE1
    clear x0 x1 x2 hE1
    go_wp2_with fail
    go_ret
    exact ⟨rfl, e1⟩
def StPost (w : World) (np : Nat) (M : Mx) (x : List Int) (e : Ending) (w' : World) : Prop :=
  Ext w w' ∧ ((twE M ≠ 0 ∧ e = .returned (.tuple #[.int .i64 0, .int .i64 (twE M)])) ∨ (twE M = 0 ∧ bgE np x ≠ 0 ∧ e = .returned (.tuple #[.int .i64 0, .int .i64 (bgE np x)])) ∨ (twE M = 0 ∧ bgE np x = 0 ∧ smallB (tmpL M x) = false ∧ e = .returned (.tuple #[.int .i64 0, .int .i64 4])) ∨ (twE M = 0 ∧ bgE np x = 0 ∧ smallB (tmpL M x) = true ∧ e = .returned (.tuple #[.int .i64 ((tmpL M x).getD 1 0), .int .i64 0])))
set_option maxRecDepth 100000 in
set_option maxHeartbeats 4000000 in
theorem gSteps_any {w : World} {P : List Int} {C M : Mx} {sp : Option Addr} {cp : Nat} {sc : Option Addr} {lc cc : Nat} {sm : Option Addr} {lm cm : Nat} {sx : Option Addr} {n cx : Nat} {x : List Int} (h : TmV w P C M M sp cp sc lc cc sm lm cm) (hx : RowR w (.slice sx n cx) x) (hL : Laid w) :
    Calls Tryz.prog 67 #[tmS P sp cp sc lc cc sm lm cm, .slice sx n cx] w (StPost w P.length M x) := by
  have htw := Lib.hid (fun W (hW : Ext w W) => gtwo_any (h.ext hW) (hL.ext hW))
  have hte := Lib.hid (fun W (hW : Ext w W) => Temper_any (h.ext hW) (hx.ext hW) (hL.ext hW))
  have hX := (Ext.refl w).alloc (.cells #[.slice sp P.length cp, .slice sc lc cc, .slice sm lm cm] 34)
  have x0 : (w.alloc (.cells #[.slice sp P.length cp, .slice sc lc cc, .slice sm lm cm] 34)).cell? ⟨w.heap.size, 0, none⟩ = some (.slice sp P.length cp) := by go_simp
  have x1 : (w.alloc (.cells #[.slice sp P.length cp, .slice sc lc cc, .slice sm lm cm] 34)).cell? ⟨w.heap.size, 1, none⟩ = some (.slice sc lc cc) := by go_simp
  have x2 : (w.alloc (.cells #[.slice sp P.length cp, .slice sc lc cc, .slice sm lm cm] 34)).cell? ⟨w.heap.size, 2, none⟩ = some (.slice sm lm cm) := by go_simp
  obtain ⟨z, hz⟩ : ∃ z, z = twE M := ⟨_, rfl⟩
  rw [← hz] at htw
  have Hz := Lib.hid hz
  have Hl2 := Lib.hid (show z = 0 → M.length = 2 from fun h0 => by
    rw [hz] at h0; unfold twE at h0
    split at h0
    · assumption
    · cases h0)
  clear hz h hx hL
  by_cases h0 : z = 0
  · subst h0
    have Htw := Lib.hid Hz.out.symm
    have hl2 := Hl2.out rfl
    clear Hz Hl2
    go_enter Tryz.func67, Tryz.ntmps67
    go_wp2_with fail
    refine (htw.out _ hX).mono ?_
    rintro e X ⟨rfl, hE1⟩
    have x0 := hE1.cell x0
    have x1 := hE1.cell x1
    have x2 := hE1.cell x2
    have e1 := hX.trans hE1
    clear htw hE1
    go_wp2_with fail
    refine (hte.out _ e1).mono ?_
    rintro e X2 ⟨hE2, (⟨k1, k2, v, rfl, hv⟩ | ⟨k1, k2, rfl⟩ | ⟨k1, rfl⟩)⟩
    · have hl : (tmpL M x).length = 2 := by rw [tmpL_length]; exact hl2
      obtain ⟨sa, gb, go, cap, rfl, hcap, hS⟩ := hv.row
      rw [hl] at hcap ⊢
      obtain ⟨y, hy⟩ : ∃ y, y = (tmpL M x).getD 1 0 := ⟨_, rfl⟩
      have hc1 := hS.cell 1 (.int .i64 y) (by rw [hy, getD_get (by omega)]; exact is_get (by omega))
      obtain rfl := hS.addr (by simp; omega)
      have Hres := Lib.hid (show ∀ W, Ext w W → StPost w P.length M x (.returned (.tuple #[.int .i64 y, .int .i64 0])) W from fun W hW => ⟨hW, .inr (.inr (.inr ⟨Htw.out, k1, k2, by rw [hy]⟩))⟩)
      have e2 := e1.trans hE2
      clear hS hv k1 k2 hy hl hl2 hE2 x0 x1 x2
      go_wp2_with fail
      go_ret2
      exact Hres.out _ e2
    · have Hres := Lib.hid (show ∀ W, Ext w W → StPost w P.length M x (.returned (.tuple #[.int .i64 0, .int .i64 4])) W from fun W hW => ⟨hW, .inr (.inr (.inl ⟨Htw.out, k1, k2, rfl⟩))⟩)
      have e2 := e1.trans hE2
      clear k1 k2 hl2 hE2 x0 x1 x2
      go_wp2_with fail
      go_ret2
      exact Hres.out _ e2
    · have Hres := Lib.hid (show ∀ W, Ext w W → StPost w P.length M x (.returned (.tuple #[.int .i64 0, .int .i64 (bgE P.length x)])) W from fun W hW => ⟨hW, .inr (.inl ⟨Htw.out, k1, rfl⟩)⟩)
      have e2 := e1.trans hE2
      have h2 : (bgE P.length x == 0) = false := beq_eq_false_iff_ne.2 k1
      have h3 : (bgE P.length x != 0) = true := by simp [bne, h2]
      generalize bgE P.length x = y at *
      clear hl2 hE2 x0 x1 x2
      go_wp2_with fail
      go_ret2
      exact Hres.out _ e2
  · have h2 : (z == 0) = false := beq_eq_false_iff_ne.2 h0
    have h3 : (z != 0) = true := by simp [bne, h2]
    have Hres := Lib.hid (show ∀ W, Ext w W → StPost w P.length M x (.returned (.tuple #[.int .i64 0, .int .i64 z])) W from fun W hW => ⟨hW, .inl ⟨by rw [← Hz.out]; exact h0, by rw [Hz.out]⟩⟩)
    clear Hz Hl2 hte
    go_enter Tryz.func67, Tryz.ntmps67
    go_wp2_with fail
    refine (htw.out _ hX).mono ?_
    rintro e X ⟨rfl, hE1⟩
    have e1 := hX.trans hE1
    go_wp2_with fail
    go_ret2
    exact Hres.out _ e1
end Go.Proofs.YtkjnjmihfonilaaGreatDoor
namespace Go.Proofs.YtkjnjmihfonilaaGreatDoor
open Go.RowKit Go.Sort
theorem own_none (w : World) (T : TypeId) : OwnV T w.heap.size (w.alloc (.cells #[] T)) w.heap.size 0 [] :=
  OwnV.of (Nat.le_refl _) Array.getElem?_push_size (by simp) (by unfold maxLen; omega) rfl rfl
section
variable {w : World} {ops : Array Oper} {rest : List Oper} {o : Oper} {a : Act} {Q : Exit → Act → World → Prop}
theorem app_rowP (hgd : o.guard = none) (s x : Operand) (t : TypeId) (ht : Tryz.prog.underlying t = some (.slice 3)) (ho : o.op = .call { callee := .builtin .append, args := #[s, x], argTypes := #[t, t] })
    {B : Nat} {v : Value} {r : List Int} (hs : a.eval s = v) (hown : RowV B w v r) {sa : Option Addr} {n c : Nat} {z : List Int} (hx : a.eval x = .slice sa n c) (hR : RowR w (.slice sa n c) z) (h0 : 0 < n) (hl : r.length + n ≤ 1000000000) (hB : B ≤ w.heap.size)
    (h : ∀ g cap w', RowV B w' (slv g (r.length + n) cap) (r ++ z) → Below B w w' → w.grownBy w' v.ownBlock → (v.ownBlock = some g ∨ g = w.heap.size) → wpList Tryz.prog ops Q rest (a.put o.dst (slv g (r.length + n) cap)) w') : wpList Tryz.prog ops Q (o :: rest) a w := by
  obtain ⟨i0, hi, hz0, hz1, hz2⟩ := info_parts Tryz.infoInt
  obtain ⟨sa', b, c', gc, e, hc, hS⟩ := hR
  injection e with e1 e2 e3
  subst e1 e3
  obtain rfl := hS.addr (by rw [is_length]; omega)
  refine wpList_append_lies w hgd s x t ho B 3 i0 _ 1 8 ht hi hz0 hz1 hz2 rfl (by omega) v r.length (is r) hs hown ⟨b, c', none⟩ n c (is z) hx (by rw [is_length]; omega) ?_ (fun u hu => by obtain ⟨y, _, rfl⟩ := List.mem_map.1 hu; rfl) h0 (by unfold maxLen; omega) (by omega) hB w.heap.size rfl ?_
  · intro j u hj
    rw [Lib.add_plain]; exact hS.cell j u hj
  · intro g cap w' h1 h2 h3 h4
    refine h g cap w' ?_ (Below.grown (Below.refl _ _) h2 hB (fun q hq => (World.ownsRow.lt hown q hq).1)) h2 h3
    unfold RowV
    rw [show is (r ++ z) = is r ++ is z by simp [is], List.length_append, ← e2]; exact h1
theorem app_lrow (hgd : o.guard = none) (s x : Operand) (t : TypeId) (ht : Tryz.prog.underlying t = some (.slice 26)) (ho : o.op = .call { callee := .builtin .append, args := #[s, x], argTypes := #[t, t] })
    {B : Nat} {v rv : Value} {F : Mx} {r : List Int} (hs : a.eval s = v) (hown : MatO B w v F) {b : Nat} (hx : a.eval x = .slice (some ⟨b, 0, none⟩) 1 1) (hc : w.cell? ⟨b, 0, none⟩ = some rv) (hr : RowV B w rv r) (hl : F.length ≤ 1000000000) (hB : B ≤ w.heap.size)
    (h : ∀ g cap w', MatO B w' (slv g (F.length + 1) cap) (F ++ [r]) → Below B w w' → w.grownBy w' v.ownBlock → wpList Tryz.prog ops Q rest (a.put o.dst (slv g (F.length + 1) cap)) w') : wpList Tryz.prog ops Q (o :: rest) a w := by
  obtain ⟨i0, hi, hz0, hz1, hz2⟩ := info_parts Tryz.infoRow
  obtain ⟨vs, h1, h2, h3⟩ := hown
  refine wpList_append_lies w hgd s x t ho B 26 i0 _ 1 24 ht hi hz0 hz1 hz2 rfl (by omega) v F.length vs hs h2 ⟨b, 0, none⟩ 1 1 [rv] hx rfl ?_ ?_ (by omega) (by unfold maxLen; omega) (by omega) hB w.heap.size rfl ?_
  · intro j u hj
    have : j = 0 := by have := (List.getElem?_eq_some_iff.1 hj).1; simp at this; omega
    subst this
    simp only [List.getElem?_cons_zero, Option.some.injEq] at hj
    subst hj
    simpa [Addr.add_lit] using hc
  · intro u hu
    simp only [List.mem_cons, List.not_mem_nil, or_false] at hu
    subst hu; exact hr.one
  · intro g cap w' k1 k2 k3 k4
    have hkeep : ∀ {u : Value} {l : List Int}, RowV B w u l → RowV B w' u l := fun hu => own_kept hu h2 (by decide) k2
    refine h g cap w' ⟨vs ++ [rv], by simp [h1], ?_, fun t ht ht' => ?_⟩ (Below.grown (Below.refl _ _) k2 hB (fun q hq => (World.ownsRow.lt h2 q hq).1)) k2
    · rw [List.length_append]; exact k1
    · rcases Nat.lt_or_ge t F.length with hlt | hge
      · rw [List.getElem_append_left (by omega), List.getElem_append_left hlt]
        exact hkeep (h3 t hlt (by omega))
      · have hte : t = F.length := by simp at ht; omega
        subst hte
        rw [List.getElem_append_right (by omega), List.getElem_append_right (by omega)]
        simp only [h1, Nat.sub_self, List.getElem_cons_zero]
        exact hkeep hr
end
theorem RowV.below {B q : Nat} {w w' : World} {v : Value} {r : List Int} (h : RowV B w v r) (hg : w.grownBy w' (some q)) (hq : q < B) : RowV B w' v r := by
  refine World.ownsRow.kept h hg ?_
  cases hu : v.ownBlock with
  | none => exact .inl rfl
  | some g => exact .inr (fun e => by
      have := (World.ownsRow.lt h g hu).1
      injection e with e; omega)
theorem MatO.below {B q : Nat} {w w' : World} {v : Value} {F : Mx} (h : MatO B w v F) (hg : w.grownBy w' (some q)) (hq : q < B) : MatO B w' v F := by
  obtain ⟨vs, h1, h2, h3⟩ := h
  refine ⟨vs, h1, World.ownsRow.kept h2 hg ?_, fun t a b => (h3 t a b).below hg hq⟩
  cases hu : v.ownBlock with
  | none => exact .inl rfl
  | some g => exact .inr (fun e => by
      have := (World.ownsRow.lt h2 g hu).1
      injection e with e; omega)
end Go.Proofs.YtkjnjmihfonilaaGreatDoor
namespace Go.Proofs.YtkjnjmihfonilaaGreatDoor
open Go.RowKit Go.Sort
set_option maxRecDepth 100000 in
theorem copied_any {w : World} {s : Option Addr} {n c : Nat} {r : List Int} (hr : RowR w (.slice s n c) r) (h0 : 0 < n) (hn : n ≤ 1000000) :
    Calls Tryz.prog 66 #[.slice s n c] w fun e w' => ∃ g cap, e = .returned (slv g n cap) ∧ RowV w.heap.size w' (slv g n cap) r ∧ Ext w w' := by
  have hX := (Ext.refl w).alloc (.cells #[] 3)
  have hO : RowV w.heap.size (w.alloc (.cells #[] 3)) (slv w.heap.size 0 0) [] := own_none w 3
  have HO := Lib.hid hO
  have Hr := Lib.hid hr
  clear hO hr
  go_enter Tryz.func66, Tryz.ntmps66
  go_wp2_with (at_builtin; refine app_rowP rfl _ _ 26 Tryz.underlying26 rfl rfl HO.out rfl (Hr.out.ext hX) h0 (by simp; omega) (by simp) ?_; intro g cap w8 hO8 hB8 hG8 _)
  have hE8 : Ext w w8 := Below.trans hX hB8
  rw [List.nil_append, List.length_nil, Nat.zero_add] at hO8
  have HO8 := Lib.hid hO8
  clear hB8 hG8 hO8
  go_ret
  exact ⟨g, cap, rfl, HO8.out, hE8⟩
def OfPost (w : World) (M : Mx) (e : Ending) (w' : World) : Prop :=
  Ext w w' ∧ ((twE M ≠ 0 ∧ e = .returned (.tuple #[.agg #[.int .i64 0, .slice none 0 0, .slice none 0 0], .int .i64 (twE M)])) ∨ (twE M = 0 ∧ ∃ a b, RowR w' a (M.getD 0 []) ∧ RowR w' b (M.getD 1 []) ∧ e = .returned (.tuple #[.agg #[.int .i64 (eM M 0 0), a, b], .int .i64 0])))
theorem row_kept0 {B q size k : Nat} {w w' : World} {T' : TypeId} {v u : Value} {xs : List Value} {r : List Int} (hr : RowV B w v r) (h' : w.ownsRow q T' size u k xs) (hT : 3 ≠ T') (hg : w.grownBy w' u.ownBlock) : RowR w' v r :=
  (RowV.row (B := B) (own_kept hr h' hT hg))
set_option maxRecDepth 100000 in
set_option maxHeartbeats 8000000 in
theorem gOf_any {w : World} {P : List Int} {C M : Mx} {sp : Option Addr} {cp : Nat} {sc : Option Addr} {lc cc : Nat} {sm : Option Addr} {lm cm : Nat} (h : TmV w P C M M sp cp sc lc cc sm lm cm) (hL : Laid w) :
    Calls Tryz.prog 34 #[tmS P sp cp sc lc cc sm lm cm] w (OfPost w M) := by
  have htw := Lib.hid (fun W (hW : Ext w W) => gtwo_any (h.ext hW) (hL.ext hW))
  have hX1 := (Ext.refl w).alloc (.cells #[.slice sp P.length cp, .slice sc lc cc, .slice sm lm cm] 34)
  have hX := hX1.alloc (.cells #[.int .i64 0, .slice none 0 0, .slice none 0 0] 69)
  have x0 : ((w.alloc (.cells #[.slice sp P.length cp, .slice sc lc cc, .slice sm lm cm] 34)).alloc (.cells #[.int .i64 0, .slice none 0 0, .slice none 0 0] 69)).cell? ⟨w.heap.size, 0, none⟩ = some (.slice sp P.length cp) := by go_simp
  have x1 : ((w.alloc (.cells #[.slice sp P.length cp, .slice sc lc cc, .slice sm lm cm] 34)).alloc (.cells #[.int .i64 0, .slice none 0 0, .slice none 0 0] 69)).cell? ⟨w.heap.size, 1, none⟩ = some (.slice sc lc cc) := by go_simp
  have x2 : ((w.alloc (.cells #[.slice sp P.length cp, .slice sc lc cc, .slice sm lm cm] 34)).alloc (.cells #[.int .i64 0, .slice none 0 0, .slice none 0 0] 69)).cell? ⟨w.heap.size, 2, none⟩ = some (.slice sm lm cm) := by go_simp
  have HO := Lib.hid (show OwnV 69 w.heap.size ((w.alloc (.cells #[.slice sp P.length cp, .slice sc lc cc, .slice sm lm cm] 34)).alloc (.cells #[.int .i64 0, .slice none 0 0, .slice none 0 0] 69)) (w.heap.size + 1) 3 [.int .i64 0, .slice none 0 0, .slice none 0 0] by
    have h := own3 (w.alloc (.cells #[.slice sp P.length cp, .slice sc lc cc, .slice sm lm cm] 34)) 69 (.int .i64 0) (.slice none 0 0) (.slice none 0 0)
    rw [show (w.alloc (.cells #[.slice sp P.length cp, .slice sc lc cc, .slice sm lm cm] 34)).heap.size = w.heap.size + 1 by simp] at h
    exact h.mono (by omega))
  obtain ⟨z, hz⟩ : ∃ z, z = twE M := ⟨_, rfl⟩
  rw [← hz] at htw
  have Hz := Lib.hid hz
  clear hz
  by_cases h0 : z = 0
  · subst h0
    have Htw := Lib.hid Hz.out.symm
    have hM2 : M.length = 2 := by
      have h0 := Htw.out; unfold twE at h0
      split at h0
      · assumption
      · cases h0
    obtain ⟨psM, hIM⟩ := h.ok.kM.1
    have hp0 := h.ok.p0
    have hp4 := h.ok.p4
    obtain ⟨sm', gm, om, cm', vs, em, hmc, hvl, hSm, hrm⟩ := h.hM
    injection em with q4 q5 q6
    subst q4 q6
    rw [hM2] at q5
    subst q5
    obtain ⟨s0, g0, o0, c0, hrow0, hrc0, hS0⟩ := MatR.row hSm hvl hrm (show 0 < M.length by omega)
    obtain ⟨s1, g1, o1, c1, hrow1, hrc1, hS1⟩ := MatR.row hSm hvl hrm (show 1 < M.length by omega)
    obtain rfl := hSm.addr (by omega)
    have hr0 : M[0].length = P.length := hIM.rect _ (List.getElem_mem _)
    have hr1 : M[1].length = P.length := hIM.rect _ (List.getElem_mem _)
    obtain ⟨z, hz⟩ : ∃ z, z = eM M 0 0 := ⟨_, rfl⟩
    have Hze := Lib.hid hz
    have Hg0 := Lib.hid (show M.getD 0 [] = M[0] from getD_get _ _)
    have Hg1 := Lib.hid (show M.getD 1 [] = M[1] from getD_get _ _)
    have hcz : w.cell? ⟨g0, o0, none⟩ = some (.int .i64 z) := by
      have := hS0.cell 0 (.int .i64 z) (by
        rw [hz]; unfold eM
        rw [getD_get (show 0 < M.length by omega), getD_get (show 0 < M[0].length by omega)]
        exact is_get (by omega))
      simpa using this
    obtain rfl := hS0.addr (by simp; omega)
    obtain rfl := hS1.addr (by simp; omega)
    have HR0 := Lib.hid (show RowR w (.slice (some ⟨g0, o0, none⟩) P.length c0) M[0] from ⟨_, _, _, _, by rw [hr0], hrc0, hS0⟩)
    have HR1 := Lib.hid (show RowR w (.slice (some ⟨g1, o1, none⟩) P.length c1) M[1] from ⟨_, _, _, _, by rw [hr1], hrc1, hS1⟩)
    rw [hr0] at hrow0
    rw [hr1] at hrow1
    rw [Nat.add_zero] at hrow0
    have hrow0 := hX.cell hrow0
    have hrow1 := hX.cell hrow1
    have hcz := hX.cell hcz
    have hpI : (0 : Int) < (P.length : Int) := by omega
    have hszw : w.heap.size < w.heap.size + 1 := by omega
    clear hr0 hr1 hIM hSm hrm hvl hS0 hS1 hmc hrc0 hrc1 hz Hz h hL
    go_enter Tryz.func34, Tryz.ntmps34
    go_wp2_with fail
    refine (htw.out _ hX).mono ?_
    generalize (w.alloc (.cells #[.slice sp P.length cp, .slice sc lc cc, .slice (some ⟨gm, om, none⟩) 2 cm] 34)).alloc (.cells #[.int .i64 0, .slice none 0 0, .slice none 0 0] 69) = V at *
    rintro e X ⟨rfl, hE1⟩
    have y2 := hE1.cell x2
    have yr0 := hE1.cell hrow0
    have yr1 := hE1.cell hrow1
    have yz := hE1.cell hcz
    have HOX := Lib.hid (HO.out.ext hE1)
    have e1 := hX.trans hE1
    clear htw x0 x1 x2 hrow0 hrow1 hcz HO hX hX1 hE1
    have hbt2 : ∃ bt, bt = w.heap.size := ⟨_, rfl⟩
    obtain ⟨bt, hbt⟩ := hbt2
    go_wp2_with fail
    rw [← hbt] at y2 ⊢
    have hbtF : bt + 1 = w.heap.size + 1 := by omega
    have hbF : w.heap.size ≤ bt + 1 := by omega
    have HOX2 := Lib.hid (show OwnV 69 w.heap.size X (bt + 1) 3 [.int .i64 0, .slice none 0 0, .slice none 0 0] by rw [hbt]; exact HOX.out)
    clear HOX hbtF hszw
    obtain ⟨bf, hbf⟩ : ∃ bf, bf = bt + 1 := ⟨_, rfl⟩
    rw [← hbf] at HOX2 hbF ⊢
    clear hbf hbt
    have dd : Ext X X.drew := (Ext.refl X).drew
    refine wp_region_held_tail (S := fun W => Ext X W) 18 (by kernel_rfl) (by simp) ?_
    intro inv
    refine wpAnyLH_take (i := 0) (v := .pointer (some ⟨bt, 2, none⟩)) rfl (by kernel_rfl) (fun _ _ _ h => h) (.inl ⟨by rfl, fun W hW => by go_simp⟩) dd inv ?_
    intro inv
    go_simp
    refine wpAnyLH_take (i := 1) (v := .slice (some ⟨gm, om, none⟩) 2 cm) rfl (by kernel_rfl) (fun _ _ _ h => h) (.inl ⟨by rfl, fun W hW => by have z0 := hW.cell y2; go_simp⟩) dd inv ?_
    intro inv
    go_simp
    refine wpAnyLH_take (i := 2) (v := .pointer (some ⟨gm, om, none⟩)) rfl (by kernel_rfl) (fun _ _ _ h => h) (.inl ⟨by rfl, fun W hW => by go_simp⟩) dd inv ?_
    intro inv
    go_simp
    refine wpAnyLH_take (i := 3) (v := .slice (some ⟨g0, o0, none⟩) P.length c0) rfl (by kernel_rfl) (fun _ _ _ h => h) (.inl ⟨by rfl, fun W hW => by have z0 := hW.cell yr0; go_simp⟩) dd inv ?_
    intro inv
    go_simp
    refine wpAnyLH_take (i := 4) (v := .pointer (some ⟨g0, o0, none⟩)) rfl (by kernel_rfl) (fun _ _ _ h => h) (.inl ⟨by rfl, fun W hW => by go_simp⟩) dd inv ?_
    intro inv
    go_simp
    refine wpAnyLH_take (i := 5) (v := .int .i64 z) rfl (by kernel_rfl) (fun _ _ _ h => h) (.inl ⟨by rfl, fun W hW => by have z0 := hW.cell yz; go_simp⟩) dd inv ?_
    intro inv
    go_simp
    refine wpAnyLH_take (i := 6) (v := .func (.func 66) #[] #[]) rfl (by kernel_rfl) (fun _ _ _ h => h) (.inl ⟨by rfl, fun W hW => by go_simp⟩) dd inv ?_
    intro inv
    go_simp
    refine wpAnyLH_take (i := 7) (v := .pointer (some ⟨bt, 2, none⟩)) rfl (by kernel_rfl) (fun _ _ _ h => h) (.inl ⟨by rfl, fun W hW => by go_simp⟩) dd inv ?_
    intro inv
    go_simp
    refine wpAnyLH_take (i := 8) (v := .slice (some ⟨gm, om, none⟩) 2 cm) rfl (by kernel_rfl) (fun _ _ _ h => h) (.inl ⟨by rfl, fun W hW => by have z0 := hW.cell y2; go_simp⟩) dd inv ?_
    intro inv
    go_simp
    refine wpAnyLH_take (i := 9) (v := .pointer (some ⟨gm, om, none⟩)) rfl (by kernel_rfl) (fun _ _ _ h => h) (.inl ⟨by rfl, fun W hW => by go_simp⟩) dd inv ?_
    intro inv
    go_simp
    refine wpAnyLH_take (i := 10) (v := .slice (some ⟨g0, o0, none⟩) P.length c0) rfl (by kernel_rfl) (fun _ _ _ h => h) (.inl ⟨by rfl, fun W hW => by have z0 := hW.cell yr0; go_simp⟩) dd inv ?_
    intro inv
    go_simp
    refine wpAnyLH_take (i := 12) (v := .func (.func 66) #[] #[]) rfl (by kernel_rfl) (fun _ _ _ h => h) (.inl ⟨by rfl, fun W hW => by go_simp⟩) dd inv ?_
    intro inv
    go_simp
    refine wpAnyLH_take (i := 13) (v := .pointer (some ⟨bt, 2, none⟩)) rfl (by kernel_rfl) (fun _ _ _ h => h) (.inl ⟨by rfl, fun W hW => by go_simp⟩) dd inv ?_
    intro inv
    go_simp
    refine wpAnyLH_take (i := 14) (v := .slice (some ⟨gm, om, none⟩) 2 cm) rfl (by kernel_rfl) (fun _ _ _ h => h) (.inl ⟨by rfl, fun W hW => by have z0 := hW.cell y2; go_simp⟩) dd inv ?_
    intro inv
    go_simp
    refine wpAnyLH_take (i := 15) (v := .pointer (some ⟨gm, om + 1, none⟩)) rfl (by kernel_rfl) (fun _ _ _ h => h) (.inl ⟨by rfl, fun W hW => by go_simp⟩) dd inv ?_
    intro inv
    go_simp
    refine wpAnyLH_take (i := 16) (v := .slice (some ⟨g1, o1, none⟩) P.length c1) rfl (by kernel_rfl) (fun _ _ _ h => h) (.inl ⟨by rfl, fun W hW => by have z0 := hW.cell yr1; go_simp⟩) dd inv ?_
    intro inv
    go_simp
    refine wpAnyLH_one (i := 11) rfl (by kernel_rfl) (fun K0 hK0 => ?_)
    go_simp
    refine (copied_any (HR0.out.ext (e1.trans dd)) hp0 (by omega)).mono ?_
    rintro e w1 ⟨ga, ca, rfl, hra, hE1⟩
    have d1 := dd.trans hE1
    have Hra := Lib.hid hra
    refine hK0 _ _ d1 ?_
    clear hK0 hra
    refine wpAnyLH_one (i := 17) rfl (by kernel_rfl) (fun K1 hK1 => ?_)
    go_simp
    refine (copied_any (HR1.out.ext (e1.trans d1)) hp0 (by omega)).mono ?_
    rintro e w2 ⟨gb, cb, rfl, hrb, hE2⟩
    have d2 := d1.trans hE2
    have Hrb := Lib.hid hrb
    have Hra2 := Lib.hid (Hra.out.ext hE2)
    refine hK1 _ _ d2 ?_
    clear hK1 hrb Hra
    refine wpAnyLH_end (by kernel_rfl) ?_
    have e9 := e1.trans d2
    have HO9 := HOX2.out.ext d2
    obtain ⟨Hr6, He6, Hg6⟩ := set3 e9 hbF HO9 (.int .i64 z) (slv ga P.length ca) (slv gb P.length cb)
    have r0 := Hr6.cell (j := 0) (by simp)
    have r1 := Hr6.cell (j := 1) (by simp)
    have r2 := Hr6.cell (j := 2) (by simp)
    simp only [List.getElem_cons_zero, List.getElem_cons_succ] at r0 r1 r2
    have f0 := HO9.frozen 0
    have f1 := HO9.frozen 1
    have f2 := HO9.frozen 2
    have m0 := HO9.cell (j := 0) (by simp)
    have m1 := HO9.cell (j := 1) (by simp)
    have m2 := HO9.cell (j := 2) (by simp)
    simp only [List.getElem_cons_zero, List.getElem_cons_succ] at m0 m1 m2
    have Hres := Lib.hid (show OfPost w M (.returned (.tuple #[.agg #[.int .i64 z, slv ga P.length ca, slv gb P.length cb], .int .i64 0])) _ from ⟨He6, .inr ⟨Htw.out, _, _, by rw [Hg0.out]; exact row_kept0 Hra2.out HO9 (by decide) Hg6, by rw [Hg1.out]; exact row_kept0 Hrb.out HO9 (by decide) Hg6, by rw [Hze.out]⟩⟩)
    clear Hr6 He6 Hg6 HO9 Hra2 Hrb y2 yr0 yr1 yz
    go_wp2_with fail
    refine bodyPost_ret (v := .tuple #[.agg #[.int .i64 z, slv ga P.length ca, slv gb P.length cb], .int .i64 0]) (by simp [results, Tryz.results34, go_sem, r0, r1, r2]) rfl Hres.out
  · have h2 : (z == 0) = false := beq_eq_false_iff_ne.2 h0
    have h3 : (z != 0) = true := by simp [bne, h2]
    have hsz1 : w.heap.size ≤ w.heap.size + 1 := by omega
    clear h hL
    go_enter Tryz.func34, Tryz.ntmps34
    go_wp2_with fail
    refine (htw.out _ hX).mono ?_
    generalize (w.alloc (.cells #[.slice sp P.length cp, .slice sc lc cc, .slice sm lm cm] 34)).alloc (.cells #[.int .i64 0, .slice none 0 0, .slice none 0 0] 69) = V at *
    rintro e X ⟨rfl, hE1⟩
    have e1 := hX.trans hE1
    have HO9 := HO.out.ext hE1
    obtain ⟨Hr6, He6, Hg6⟩ := set3 e1 hsz1 HO9 (.int .i64 0) (.slice none 0 0) (.slice none 0 0)
    have r0 := Hr6.cell (j := 0) (by simp)
    have r1 := Hr6.cell (j := 1) (by simp)
    have r2 := Hr6.cell (j := 2) (by simp)
    simp only [List.getElem_cons_zero, List.getElem_cons_succ] at r0 r1 r2
    have f0 := HO9.frozen 0
    have f1 := HO9.frozen 1
    have f2 := HO9.frozen 2
    have m0 := HO9.cell (j := 0) (by simp)
    have m1 := HO9.cell (j := 1) (by simp)
    have m2 := HO9.cell (j := 2) (by simp)
    simp only [List.getElem_cons_zero, List.getElem_cons_succ] at m0 m1 m2
    have Hres := Lib.hid (show OfPost w M (.returned (.tuple #[.agg #[.int .i64 0, .slice none 0 0, .slice none 0 0], .int .i64 z])) _ from ⟨He6, .inl ⟨by rw [← Hz.out]; exact h0, by rw [Hz.out]⟩⟩)
    clear Hr6 He6 Hg6 HO9 HO htw x0 x1 x2 hE1 e1 hX hX1
    generalize w.heap.size + 1 = bf at *
    go_wp2_with fail
    refine bodyPost_ret (v := .tuple #[.agg #[.int .i64 0, .slice none 0 0, .slice none 0 0], .int .i64 z]) (by simp [results, Tryz.results34, go_sem, r0, r1, r2]) rfl Hres.out
end Go.Proofs.YtkjnjmihfonilaaGreatDoor
