/- Part 33 of the proof of the claim: contracts of the functions that it reaches, and plain laws; no condition. -/
import Derived.Test.YtcklioolpicmcaaGreatDoorV32
import Derived.Test.YtcklioolpicmcaaGreatDoorV19
import Derived.Test.YtcklioolpicmcaaGreatDoorV08
import Derived.Test.YtcklioolpicmcaaGreatDoorV14
import Derived.Test.YtcklioolpicmcaaGreatDoorRows
import Derived.ProofKit
import Derived.LaidMore
import Derived.OpenShut
import Derived.Stop.Joined
import Derived.Stop.LaidErr
import Derived.Lib.LaidTab
import Derived.Deep.Matrix
/- schismaref08: Check, CheckRow -/
namespace Go.Proofs.YtcklioolpicmcaaGreatDoor
open Go.RowKit Go.Sort
set_option maxRecDepth 100000 in
set_option maxHeartbeats 1000000 in
theorem Check08_any {w : World} {v : Value} {M : Mx} (hM : MatR w v M) :
    Calls Tryz.prog 23 #[v] w fun e w' => e = .returned (.int .i64 (checkM M)) ∧ Ext w w' := by
  obtain ⟨sa, gb, go, cap, vs, rfl, hcap, hvl, hS, hr⟩ := hM
  by_cases hbig : 12 < M.length
  · have hbi : (12 : Int) < (M.length : Int) := by omega
    have he : checkM M = 4 := by unfold checkM; rw [if_pos hbig]
    rw [he]
    clear he hS hr hvl
    go_enter Tryz.func23, Tryz.ntmps23
    go_wp2_with fail
    go_ret
    exact ⟨rfl, Ext.refl _⟩
  have he : checkM M = chk (M.getD 0 []).length M := by unfold checkM; rw [if_neg hbig]
  rw [he]
  obtain ⟨E0, hE0⟩ : ∃ E0, E0 = chk (M.getD 0 []).length M := ⟨_, rfl⟩
  rw [← hE0]
  have HE0 := Lib.hid hE0
  have hml : M.length ≤ 12 := by omega
  have hmi : (M.length : Int) ≤ 12 := by omega
  have HS := Lib.hid hS
  have HV := Lib.hid hvl
  have HR := Lib.hid hr
  clear hS hvl hr he hbig hE0
  go_enter Tryz.func23, Tryz.ntmps23
  go_wp2_with fail
  go_loopw [3] (fun idx wr => ∃ i : Nat, i ≤ M.length ∧ idx = .int .i64 i ∧ Hid (∀ j (h : j < M.length), j < i → chkR (M.getD 0 []).length M[j] = 0) ∧ Ext w wr) (fun idx _ => M.length - (intOf idx).toNat)
  case atStart => exact ⟨0, by omega, by go_num, Lib.hid (fun j _ h => by omega), Ext.refl _⟩
  case round =>
    obtain ⟨i, hi, rfl, Hz, hE⟩ := hrel
    generalize wr = X at *
    by_cases hlt : i < M.length
    · have hii : (i : Int) < (M.length : Int) := by omega
      have hi0 : 0 < M.length := by omega
      have hi0i : (0 : Int) < (M.length : Int) := by omega
      obtain rfl := HS.out.addr (by rw [HV.out]; omega)
      obtain ⟨sr, br, or, cr, hrow, hrc, hSr⟩ := MatR.row HS.out HV.out HR.out hlt
      obtain ⟨s0, b0, o0, c0, hrow0, hrc0, hS0⟩ := MatR.row HS.out HV.out HR.out hi0
      have hrow' := hE.cell hrow
      have hrow0' := hE.cell hrow0
      rw [Nat.add_zero] at hrow0'
      obtain ⟨c, hc⟩ : ∃ c, c = (M.getD 0 []).length := ⟨_, rfl⟩
      have hc0 : M[0].length = c := by rw [hc, getD_get hi0]
      rw [hc0] at hrow0'
      obtain ⟨n, hn⟩ : ∃ n, n = M[i].length := ⟨_, rfl⟩
      rw [← hn] at hrow'
      have HC := Lib.hid hc
      have Hn := Lib.hid hn
      have hat : chkR c M[i] ≠ 0 → chk (M.getD 0 []).length M = chkR c M[i] := fun h => by
        rw [hc]
        exact chk_at _ M i hlt (fun j hj => Hz.out j (by omega) hj) (by rw [← hc]; exact h)
      have Hat := Lib.hid hat
      have HSr := Lib.hid (hSr.ext hE)
      clear hrow hrow0 hrc0 hS0 hc hc0 hn hat hSr
      by_cases h12 : 12 < n
      · have h12i : (12 : Int) < (n : Int) := by omega
        have hch : chkR c M[i] = 4 := by unfold chkR; rw [← Hn.out, if_pos h12]
        have Hch := Lib.hid hch
        clear hch
        go_wp2_with fail
        go_ret
        exact ⟨by rw [HE0.out, Hat.out (by rw [Hch.out]; decide), Hch.out]; rfl, hE⟩
      · have h12i : (n : Int) ≤ 12 := by omega
        have h12d : decide ((12 : Int) < (n : Int)) = false := decide_eq_false (by omega)
        by_cases hnc : n = c
        · subst hnc
          clear h12
          go_wp2_with fail
          go_quiet (fail)
          have hE2 := hE.drewN 1
          go_wp2_with fail
          go_loopw [4] (fun idx wr => ∃ k : Nat, k ≤ n ∧ idx = .int .i64 k ∧ Hid (∀ j, j < k → grt (M[i].getD j 0) = false) ∧ Ext X wr) (fun idx _ => n - (intOf idx).toNat)
          case atStart => exact ⟨0, by omega, by go_num, Lib.hid (fun j h => by omega), (Ext.refl _).drewN _⟩
          case round =>
            obtain ⟨k, hk, rfl, Hg, hEk⟩ := hrel
            generalize wr = Y at *
            by_cases hkn : k < n
            · have hki : (k : Int) < (n : Int) := by omega
              have hkM : k < M[i].length := by rw [← Hn.out]; exact hkn
              have c1 := (HSr.out.ext hEk).cell k (.int .i64 (M[i][k])) (is_get hkM)
              obtain rfl := HSr.out.addr (by rw [is_length, ← Hn.out]; omega)
              have hrowY := hEk.cell hrow'
              obtain ⟨z, hz⟩ : ∃ z, z = M[i][k] := ⟨_, rfl⟩
              rw [← hz] at c1
              have Hz2 := Lib.hid (show M[i].getD k 0 = z by rw [hz, getD_get hkM])
              have hno : grt z = true → chkR n M[i] = 4 := fun h => by
                have : M[i].any grt = true := List.any_eq_true.2 ⟨M[i][k], List.getElem_mem hkM, by rw [← hz]; exact h⟩
                unfold chkR; rw [← Hn.out, if_neg (by omega), if_neg (by omega), this]; rfl
              have Hno := Lib.hid hno
              clear hz hno
              by_cases g1 : 1000000000 < z
              · have hch := Hno.out (by unfold grt; exact decide_eq_true (.inl g1))
                have Hch := Lib.hid hch
                clear hch
                go_wp2_with fail
                go_ret
                exact ⟨by rw [HE0.out, Hat.out (by rw [Hch.out]; decide), Hch.out]; rfl, hE.trans hEk⟩
              · have g1d : decide (1000000000 < z) = false := decide_eq_false g1
                by_cases g2 : z < -1000000000
                · have hch := Hno.out (by unfold grt; exact decide_eq_true (.inr g2))
                  have Hch := Lib.hid hch
                  clear hch
                  go_wp2_with fail
                  go_ret
                  exact ⟨by rw [HE0.out, Hat.out (by rw [Hch.out]; decide), Hch.out]; rfl, hE.trans hEk⟩
                · have g2d : decide (z < -1000000000) = false := decide_eq_false g2
                  have Hgz := Lib.hid (show grt z = false by unfold grt; exact decide_eq_false (by omega))
                  clear g1 g2
                  go_wp2_with fail
                  go_roundw
                  case rel => exact ⟨k + 1, by omega, by go_num, Lib.hid (fun j hj => by
                    by_cases e : j = k
                    · subst e; rw [Hz2.out]; exact Hgz.out
                    · exact Hg.out j (by omega)), hEk⟩
                  case measure => simp [intOf] <;> omega
            · have hrowY := hEk.cell hrow'
              have Hok := Lib.hid (show chkR n M[i] = 0 by
                have hany : M[i].any grt = false := by
                  cases h : M[i].any grt
                  · rfl
                  · obtain ⟨z, hz, hg⟩ := List.any_eq_true.1 h
                    obtain ⟨j, hj, rfl⟩ := List.getElem_of_mem hz
                    have := Hg.out j (by have := Hn.out; omega)
                    rw [getD_get hj] at this
                    rw [this] at hg; cases hg
                unfold chkR; rw [← Hn.out, if_neg (by omega), if_neg (by omega), hany]; rfl)
              go_wp2_with fail
              go_roundw
              case rel => exact ⟨i + 1, by omega, by go_num, Lib.hid (fun j h hj => by
                by_cases e : j = i
                · subst e; rw [← HC.out]; exact Hok.out
                · exact Hz.out j h (by omega)), hE.trans hEk⟩
              case measure => simp [intOf] <;> omega
        · have hch : chkR c M[i] = 5 := by unfold chkR; rw [← Hn.out, if_neg h12, if_pos hnc]
          have Hch := Lib.hid hch
          have hnb : ((n : Int) == (c : Int)) = false := beq_eq_false_iff_ne.2 (by omega)
          have hnb2 : ((n : Int) != (c : Int)) = true := by simp [bne, hnb]
          have hnc' : ¬ (n : Int) = (c : Int) := by omega
          clear hch hnc h12
          go_wp2_with fail
          go_quiet (fail)
          go_wp2_with fail
          go_ret
          exact ⟨by rw [HE0.out, Hat.out (by rw [Hch.out]; decide), Hch.out]; rfl, hE.drewN _⟩
    · have Hch := Lib.hid (chk_all (M.getD 0 []).length M (fun j h => Hz.out j h (by omega)))
      go_wp2_with fail
      go_ret
      exact ⟨by rw [HE0.out, Hch.out]; rfl, hE⟩
set_option maxRecDepth 100000 in
set_option maxHeartbeats 1000000 in
theorem CheckRow08_any {w : World} {v : Value} {x : List Int} (hR : RowR w v x) :
    Calls Tryz.prog 24 #[v] w fun e w' => e = .returned (.int .i64 (chkRow x)) ∧ Ext w w' := by
  obtain ⟨sa, gb, go, cap, rfl, hc, hS⟩ := hR
  obtain ⟨n, hn⟩ : ∃ n, n = x.length := ⟨_, rfl⟩
  rw [← hn]
  have Hn := Lib.hid hn
  have HS := Lib.hid hS
  by_cases hbig : 64 < n
  · have hbi : (64 : Int) < (n : Int) := by omega
    have he : chkRow x = 4 := by unfold chkRow; rw [← hn, if_pos hbig]
    rw [he]
    clear he hS hn
    go_enter Tryz.func24, Tryz.ntmps24
    go_wp2_with fail
    go_ret
    exact ⟨rfl, Ext.refl _⟩
  · have hbi : ¬ (64 : Int) < (n : Int) := by omega
    have he : chkRow x = if x.any grt then 4 else 0 := by unfold chkRow; rw [← hn, if_neg hbig]
    rw [he]
    obtain ⟨E0, hE0⟩ : ∃ E0 : Int, E0 = if x.any grt then 4 else 0 := ⟨_, rfl⟩
    rw [← hE0]
    have HE0 := Lib.hid hE0
    clear he hS hn hE0 hc
    go_enter Tryz.func24, Tryz.ntmps24
    go_wp2_with fail
    go_loopw [3] (fun idx wr => ∃ i : Nat, i ≤ n ∧ idx = .int .i64 i ∧ Hid (∀ j (h : j < x.length), j < i → grt x[j] = false) ∧ Ext w wr) (fun idx _ => n - (intOf idx).toNat)
    case atStart => exact ⟨0, by omega, by go_num, Lib.hid (fun j _ h => by omega), Ext.refl _⟩
    case round =>
      obtain ⟨i, hi, rfl, Hz, hE⟩ := hrel
      generalize wr = X at *
      by_cases hlt : i < n
      · have hii : (i : Int) < (n : Int) := by omega
        have hir : i < x.length := by rw [← Hn.out]; exact hlt
        obtain rfl := HS.out.addr (by rw [is_length]; omega)
        obtain ⟨z, hz⟩ : ∃ z, z = x[i] := ⟨_, rfl⟩
        have cz : X.cell? ⟨gb, go + i, none⟩ = some (.int .i64 z) := by rw [hz]; exact hE.cell (HS.out.cell i _ (is_get hir))
        have Hzz := Lib.hid hz
        by_cases hg : 1000000000 < z ∨ z < -1000000000
        · have Hany := Lib.hid (show E0 = 4 by
            rw [HE0.out, if_pos]
            exact List.any_eq_true.2 ⟨x[i], List.getElem_mem hir, by rw [← Hzz.out]; exact decide_eq_true hg⟩)
          clear hz
          rcases Int.lt_or_le 1000000000 z with h1 | h1
          · clear hg
            go_wp2_with fail
            go_ret
            exact ⟨by rw [Hany.out]; rfl, hE⟩
          · have h2 : z < (-1000000000 : Int) := by omega
            have h3 : ¬ (1000000000 : Int) < z := by omega
            clear hg
            go_wp2_with fail
            go_ret
            exact ⟨by rw [Hany.out]; rfl, hE⟩
        · have h3 : ¬ (1000000000 : Int) < z := by omega
          have h2 : ¬ z < (-1000000000 : Int) := by omega
          have Hz2 := Lib.hid (show ∀ j (h : j < x.length), j < i + 1 → grt x[j] = false from fun j hj h => by
            by_cases e : j = i
            · subst e; rw [← Hzz.out]; exact decide_eq_false hg
            · exact Hz.out j hj (by omega))
          clear hg hz
          go_wp2_with fail
          go_roundw
          case rel => exact ⟨i + 1, by omega, by go_num, Hz2, hE⟩
          case measure => simp [intOf] <;> omega
      · have Hno := Lib.hid (show E0 = 0 by
          rw [HE0.out, if_neg]
          intro ha
          obtain ⟨z, hz, hg⟩ := List.any_eq_true.1 ha
          obtain ⟨j, hj, rfl⟩ := List.getElem_of_mem hz
          rw [Hz.out j hj (by rw [← Hn.out] at hj; omega)] at hg
          cases hg)
        go_wp2_with fail
        go_ret
        exact ⟨by rw [Hno.out]; rfl, hE⟩
end Go.Proofs.YtcklioolpicmcaaGreatDoor
/- schismalaw08: SmithErrors, the walk -/
namespace Go.Proofs.YtcklioolpicmcaaGreatDoor
open Go.RowKit Go.Sort
theorem mat_nil (w : World) : MatR w (.slice none 0 0) [] := ⟨none, 0, 0, 0, [], rfl, Nat.le_refl _, rfl, Sl.nil _ _ _ _, fun i h => by simp at h⟩
theorem check_nil : checkM [] = 0 := rfl
theorem sizeE_bad {M : Mx} {x : List Int} (h : checkM M ≠ 0) : sizeE M x = checkM M := by unfold sizeE; rw [if_neg h]
theorem groupE_bad {M : Mx} {n : Int} (h : checkM M ≠ 0) : groupE M n = checkM M := by unfold groupE; rw [if_neg h]
/-- The tail of the law: for a right matrix nothing is left to ask. -/
def TailOk (w : World) (e : Ending) (w' : World) : Prop := e = .returned (.bool true) ∧ Ext w w'
set_option maxRecDepth 100000 in
set_option maxHeartbeats 8000000 in
theorem er_walk {w : World} {v vx : Value} {M : Mx} {x : List Int} {n : Int} (hM : MatR w v M) (hX : RowR w vx x) (hn : -9223372036854775808 ≤ n ∧ n ≤ 9223372036854775807) (hm : M.length ≤ 9223372036854775807) (hL : Laid w) :
    Calls Tryz.prog 4 #[v, vx, .int .i64 n] w fun e w' => e = .returned (.bool true) ∧ Ext w w' := by
  have hkn := Lib.hid (fun W (hW : Ext w W) => known08_any (hL.ext hW))
  have hfw := Lib.hid (fun W (hW : Ext w W) => few08_any (hM.ext hW) hm)
  obtain ⟨sr, br, or, cr, rfl, hcr, hSr⟩ := id hX
  obtain ⟨m, hml⟩ : ∃ m, m = x.length := ⟨_, rfl⟩
  by_cases hf : few14 M = false ∨ 70 < m
  · have HX := Lib.hid hX
    rw [← hml]
    clear hM hX hn hm hL hcr hSr hml
    cases hff : few14 M
    · rw [hff] at hfw
      clear hf hff
      go_enter Tryz.func4, Tryz.ntmps4
      go_wp2_with fail
      refine (hkn.out _ (Ext.refl _)).mono ?_
      rintro e w1 ⟨rfl, hE1⟩
      go_wp2_with fail
      refine (hfw.out _ hE1).mono ?_
      rintro e w2 ⟨rfl, hE2⟩
      have hE12 := hE1.trans hE2
      go_wp2_with fail
      refine (hkn.out _ hE12).mono ?_
      rintro e w3 ⟨rfl, hE3⟩
      go_wp2_with fail
      go_ret
      exact ⟨rfl, hE12.trans hE3⟩
    · rw [hff] at hfw
      have h70 : (70 : Int) < (m : Int) := by
        rcases hf with h | h
        · rw [hff] at h; cases h
        · omega
      clear hf hff
      go_enter Tryz.func4, Tryz.ntmps4
      go_wp2_with fail
      refine (hkn.out _ (Ext.refl _)).mono ?_
      rintro e w1 ⟨rfl, hE1⟩
      go_wp2_with fail
      refine (hfw.out _ hE1).mono ?_
      rintro e w2 ⟨rfl, hE2⟩
      have hE12 := hE1.trans hE2
      go_wp2_with fail
      refine (hkn.out _ hE12).mono ?_
      rintro e w3 ⟨rfl, hE3⟩
      go_wp2_with fail
      go_ret
      exact ⟨rfl, hE12.trans hE3⟩
  · have hff : few14 M = true := by cases h : few14 M <;> simp_all
    have h70 : ¬ (70 : Int) < (m : Int) := by omega
    -- walk
    rw [hff] at hfw
    clear hf hff
    obtain ⟨c, hc⟩ : ∃ c, c = checkM M := ⟨_, rfl⟩
    have hck := Lib.hid (fun W (hW : Ext w W) => Check08_any (hM.ext hW))
    rw [← hc] at hck
    by_cases h0 : c = 0
    · subst h0
      have hcr8 := Lib.hid (fun W (hW : Ext w W) => CheckRow08_any (hX.ext hW))
      have hco8 := Lib.hid (fun W (hW : Ext w W) => columns08_any (n := n) (hM.ext hW))
      obtain ⟨u, hu⟩ : ∃ u, u = colE M n := ⟨_, rfl⟩
      rw [← hu] at hco8
      have hgu : groupE M n = u := by rw [hu]; unfold groupE colE; rw [if_pos hc.symm]
      have hqu := Lib.hid (fun (h : u ≠ 0) W (hW : Ext w W) => Quotient_bad (hM.ext hW) hn hgu h)
      have hex := Lib.hid (fun (h : u ≠ 0) W (hW : Ext w W) => Exponent_bad (hM.ext hW) hn hgu h)
      obtain ⟨r, hr⟩ : ∃ r, r = chkRow x := ⟨_, rfl⟩
      rw [← hr] at hcr8
      obtain ⟨sa, gb, go, cap, vs, rfl, hcap, hvl, hS, hrr⟩ := id hM
      rw [← hml] at hcr8 ⊢
      by_cases hr0 : r = 0
      · subst hr0
        by_cases hM0 : M.length = 0
        · have hl0 : ¬ (0 : Int) < (M.length : Int) := by omega
          rw [hM0] at hfw hck hco8 hqu hex ⊢
          clear hS hvl hrr hcap hM hX hM0 hl0 hu hgu hc hr hm hml hL hcr hSr
          go_enter Tryz.func4, Tryz.ntmps4
          go_wp2_with fail
          refine (hkn.out _ (Ext.refl _)).mono ?_
          rintro e w1 ⟨rfl, hE1⟩
          go_wp2_with fail
          refine (hfw.out _ hE1).mono ?_
          rintro e w2 ⟨rfl, hE2⟩
          have hE12 := hE1.trans hE2
          go_wp2_with fail
          refine (hck.out _ hE12).mono ?_
          rintro e w3 ⟨rfl, hE3⟩
          have hX3 := hE12.trans hE3
          clear hE1 hE2 hE12 hE3 hkn hfw hck
          go_wp2_with fail
          refine (hcr8.out _ hX3).mono ?_
          rintro e w4 ⟨rfl, hE4⟩
          have hX4 := hX3.trans hE4
          clear hE4 hX3
          go_wp2_with fail
          refine (hco8.out _ hX4).mono ?_
          rintro e w5 ⟨rfl, hE5⟩
          have hX5 := hX4.trans hE5
          clear hE5 hX4
          by_cases hu0 : u = 0
          · subst hu0
            clear hqu hex
            go_wp2_with fail
            go_ret
            exact ⟨rfl, hX5⟩
          · have hub : (u == 0) = false := beq_eq_false_iff_ne.2 hu0
            have hub2 : (u != 0) = true := by simp [bne, hub]
            have hqu2 := Lib.hid (hqu.out hu0)
            have hex2 := Lib.hid (hex.out hu0)
            clear hqu hex
            go_wp2_with fail
            refine (hqu2.out _ hX5).mono ?_
            rintro e w6 ⟨rfl, hE6⟩
            have hX6 := hX5.trans hE6
            clear hE6 hX5
            go_wp2_with fail
            refine (hex2.out _ hX6).mono ?_
            rintro e w7 ⟨rfl, hE7⟩
            have hX7 := hX6.trans hE7
            clear hE7 hX6
            go_wp2_with fail
            go_ret
            exact ⟨rfl, hX7⟩
        · have hMp : (0 : Int) < (M.length : Int) := by omega
          obtain ⟨s0, c0, rfl, hrow⟩ := ncols_row hS hvl hrr (by omega)
          obtain ⟨nc, hnc⟩ : ∃ nc, nc = ncols M := ⟨_, rfl⟩
          rw [← hnc] at hrow
          by_cases hl : m = nc
          · subst hl
            clear hS hvl hrr hcap hM hX hM0 hu hgu hc hr hnc hml hL hcr hSr
            go_enter Tryz.func4, Tryz.ntmps4
            go_wp2_with fail
            refine (hkn.out _ (Ext.refl _)).mono ?_
            rintro e w1 ⟨rfl, hE1⟩
            go_wp2_with fail
            refine (hfw.out _ hE1).mono ?_
            rintro e w2 ⟨rfl, hE2⟩
            have hE12 := hE1.trans hE2
            go_wp2_with fail
            refine (hck.out _ hE12).mono ?_
            rintro e w3 ⟨rfl, hE3⟩
            have hX3 := hE12.trans hE3
            clear hE1 hE2 hE12 hE3 hkn hfw hck
            go_wp2_with fail
            refine (hcr8.out _ hX3).mono ?_
            rintro e w4 ⟨rfl, hE4⟩
            have hX4 := hX3.trans hE4
            clear hE4 hX3
            have hrow4 := hX4.cell hrow
            go_wp2_with fail
            refine (hco8.out _ hX4).mono ?_
            rintro e w5 ⟨rfl, hE5⟩
            have hX5 := hX4.trans hE5
            clear hE5 hX4
            by_cases hu0 : u = 0
            · subst hu0
              clear hqu hex
              go_wp2_with fail
              go_ret
              exact ⟨rfl, hX5⟩
            · have hub : (u == 0) = false := beq_eq_false_iff_ne.2 hu0
              have hub2 : (u != 0) = true := by simp [bne, hub]
              have hqu2 := Lib.hid (hqu.out hu0)
              have hex2 := Lib.hid (hex.out hu0)
              clear hqu hex
              go_wp2_with fail
              refine (hqu2.out _ hX5).mono ?_
              rintro e w6 ⟨rfl, hE6⟩
              have hX6 := hX5.trans hE6
              clear hE6 hX5
              go_wp2_with fail
              refine (hex2.out _ hX6).mono ?_
              rintro e w7 ⟨rfl, hE7⟩
              have hX7 := hX6.trans hE7
              clear hE7 hX6
              go_wp2_with fail
              go_ret
              exact ⟨rfl, hX7⟩
          · have hsz : sizeE M x = 5 := by unfold sizeE; rw [if_pos hc.symm, if_pos hr.symm, if_pos ⟨by omega, by omega⟩]
            have hso := Lib.hid (fun W (hW : Ext w W) => Solve_bad (hM.ext hW) (hX.ext hW) hsz (by decide))
            have hor := Lib.hid (fun W (hW : Ext w W) => Order_bad (hM.ext hW) (hX.ext hW) hsz (by decide))
            rw [← hml] at hso hor
            have hlb : ((m : Int) == (nc : Int)) = false := beq_eq_false_iff_ne.2 (by omega)
            have hlb2 : ((m : Int) != (nc : Int)) = true := by simp [bne, hlb]
            have hlI : ¬ (m : Int) = (nc : Int) := by omega
            clear hS hvl hrr hcap hM hX hM0 hu hgu hc hr hnc hsz hl hml hL hcr hSr
            go_enter Tryz.func4, Tryz.ntmps4
            go_wp2_with fail
            refine (hkn.out _ (Ext.refl _)).mono ?_
            rintro e w1 ⟨rfl, hE1⟩
            go_wp2_with fail
            refine (hfw.out _ hE1).mono ?_
            rintro e w2 ⟨rfl, hE2⟩
            have hE12 := hE1.trans hE2
            go_wp2_with fail
            refine (hck.out _ hE12).mono ?_
            rintro e w3 ⟨rfl, hE3⟩
            have hX3 := hE12.trans hE3
            clear hE1 hE2 hE12 hE3 hkn hfw hck
            go_wp2_with fail
            refine (hcr8.out _ hX3).mono ?_
            rintro e w4 ⟨rfl, hE4⟩
            have hX4 := hX3.trans hE4
            clear hE4 hX3
            have hrow4 := hX4.cell hrow
            go_wp2_with fail
            refine (hso.out _ hX4).mono ?_
            rintro e w5 ⟨rfl, hE5⟩
            have hX5 := hX4.trans hE5
            clear hE5 hX4
            go_wp2_with fail
            refine (hor.out _ hX5).mono ?_
            rintro e w6 ⟨rfl, hE6⟩
            have hX6 := hX5.trans hE6
            clear hE6 hX5
            go_wp2_with fail
            refine (hco8.out _ hX6).mono ?_
            rintro e w7 ⟨rfl, hE7⟩
            have hX7 := hX6.trans hE7
            clear hE7 hX6
            by_cases hu0 : u = 0
            · subst hu0
              clear hqu hex
              go_wp2_with fail
              go_ret
              exact ⟨rfl, hX7⟩
            · have hub : (u == 0) = false := beq_eq_false_iff_ne.2 hu0
              have hub2 : (u != 0) = true := by simp [bne, hub]
              have hqu2 := Lib.hid (hqu.out hu0)
              have hex2 := Lib.hid (hex.out hu0)
              clear hqu hex
              go_wp2_with fail
              refine (hqu2.out _ hX7).mono ?_
              rintro e w8 ⟨rfl, hE8⟩
              have hX8 := hX7.trans hE8
              clear hE8 hX7
              go_wp2_with fail
              refine (hex2.out _ hX8).mono ?_
              rintro e w9 ⟨rfl, hE9⟩
              have hX9 := hX8.trans hE9
              clear hE9 hX8
              go_wp2_with fail
              go_ret
              exact ⟨rfl, hX9⟩
      · have hsz : sizeE M x = r := by unfold sizeE; rw [if_pos hc.symm, if_neg (by rw [← hr]; exact hr0), hr]
        have hso := Lib.hid (fun W (hW : Ext w W) => Solve_bad (hM.ext hW) (hX.ext hW) hsz hr0)
        have hor := Lib.hid (fun W (hW : Ext w W) => Order_bad (hM.ext hW) (hX.ext hW) hsz hr0)
        rw [← hml] at hso hor
        have hrb : (r == 0) = false := beq_eq_false_iff_ne.2 hr0
        have hrb2 : (r != 0) = true := by simp [bne, hrb]
        clear hS hvl hrr hcap hM hX hu hgu hc hr hsz hm hml hL hcr hSr
        go_enter Tryz.func4, Tryz.ntmps4
        go_wp2_with fail
        refine (hkn.out _ (Ext.refl _)).mono ?_
        rintro e w1 ⟨rfl, hE1⟩
        go_wp2_with fail
        refine (hfw.out _ hE1).mono ?_
        rintro e w2 ⟨rfl, hE2⟩
        have hE12 := hE1.trans hE2
        go_wp2_with fail
        refine (hck.out _ hE12).mono ?_
        rintro e w3 ⟨rfl, hE3⟩
        have hX3 := hE12.trans hE3
        clear hE1 hE2 hE12 hE3 hkn hfw hck
        go_wp2_with fail
        refine (hcr8.out _ hX3).mono ?_
        rintro e w4 ⟨rfl, hE4⟩
        have hX4 := hX3.trans hE4
        clear hE4 hX3
        go_wp2_with fail
        refine (hso.out _ hX4).mono ?_
        rintro e w5 ⟨rfl, hE5⟩
        have hX5 := hX4.trans hE5
        clear hE5 hX4
        go_wp2_with fail
        refine (hor.out _ hX5).mono ?_
        rintro e w6 ⟨rfl, hE6⟩
        have hX6 := hX5.trans hE6
        clear hE6 hX5
        go_wp2_with fail
        refine (hco8.out _ hX6).mono ?_
        rintro e w7 ⟨rfl, hE7⟩
        have hX7 := hX6.trans hE7
        clear hE7 hX6
        by_cases hu0 : u = 0
        · subst hu0
          clear hqu hex
          go_wp2_with fail
          go_ret
          exact ⟨rfl, hX7⟩
        · have hub : (u == 0) = false := beq_eq_false_iff_ne.2 hu0
          have hub2 : (u != 0) = true := by simp [bne, hub]
          have hqu2 := Lib.hid (hqu.out hu0)
          have hex2 := Lib.hid (hex.out hu0)
          clear hqu hex
          go_wp2_with fail
          refine (hqu2.out _ hX7).mono ?_
          rintro e w8 ⟨rfl, hE8⟩
          have hX8 := hX7.trans hE8
          clear hE8 hX7
          go_wp2_with fail
          refine (hex2.out _ hX8).mono ?_
          rintro e w9 ⟨rfl, hE9⟩
          have hX9 := hX8.trans hE9
          clear hE9 hX8
          go_wp2_with fail
          go_ret
          exact ⟨rfl, hX9⟩
    · have hc0 : checkM M ≠ 0 := by rw [← hc]; exact h0
      have hsz : sizeE M x = c := by rw [sizeE_bad hc0, hc]
      have hgu : groupE M n = c := by rw [groupE_bad hc0, hc]
      have hso := Lib.hid (fun W (hW : Ext w W) => Solve_bad (hM.ext hW) (hX.ext hW) hsz h0)
      have hor := Lib.hid (fun W (hW : Ext w W) => Order_bad (hM.ext hW) (hX.ext hW) hsz h0)
      have hqu := Lib.hid (fun W (hW : Ext w W) => Quotient_bad (hM.ext hW) hn hgu h0)
      have hex := Lib.hid (fun W (hW : Ext w W) => Exponent_bad (hM.ext hW) hn hgu h0)
      have hfa := Lib.hid (fun W (hW : Ext w W) => Factors_bad (hM.ext hW) hc.symm h0)
      have hfo := Lib.hid (fun W (hW : Ext w W) => Form_bad (hM.ext hW) hc.symm h0)
      have htr := Lib.hid (fun W (hW : Ext w W) => Transform_bad (hM.ext hW) hc.symm h0)
      have hke := Lib.hid (fun W (hW : Ext w W) => Kernel_bad (hM.ext hW) hc.symm h0)
      have hv1 := Lib.hid (fun W (hW : Ext w W) => Verify_bad (hM.ext hW) (mat_nil W) (mat_nil W) (show verE M [] [] = c by unfold verE; rw [if_neg hc0, hc]) h0)
      have hv2 := Lib.hid (fun W (hW : Ext w W) => Verify_bad (mat_nil W) (hM.ext hW) (mat_nil W) (show verE [] M [] = c by unfold verE; rw [if_pos check_nil, if_neg hc0, hc]) h0)
      have hv3 := Lib.hid (fun W (hW : Ext w W) => Verify_bad (mat_nil W) (mat_nil W) (hM.ext hW) (show verE [] [] M = c by unfold verE; rw [if_pos check_nil, if_pos check_nil, hc]) h0)
      rw [← hml] at hso hor ⊢
      have hcb : (c == 0) = false := beq_eq_false_iff_ne.2 h0
      have hcb2 : (c != 0) = true := by simp [bne, hcb]
      obtain ⟨sa, gb, go, cap, vs, rfl, hcap, hvl, hS, hrr⟩ := hM
      clear hX hc hc0 hsz hgu hm hn hml hL hcr hSr hcap hvl hS hrr
      go_enter Tryz.func4, Tryz.ntmps4
      go_wp2_with fail
      refine (hkn.out _ (Ext.refl _)).mono ?_
      rintro e w1 ⟨rfl, hE1⟩
      go_wp2_with fail
      refine (hfw.out _ hE1).mono ?_
      rintro e w2 ⟨rfl, hE2⟩
      have hE12 := hE1.trans hE2
      go_wp2_with fail
      refine (hck.out _ hE12).mono ?_
      rintro e w3 ⟨rfl, hE3⟩
      have hX3 := hE12.trans hE3
      clear hE1 hE2 hE12 hE3 hkn hfw hck
      go_wp2_with fail
      refine (hso.out _ hX3).mono ?_
      rintro e w4 ⟨rfl, hE4⟩
      have hX4 := hX3.trans hE4
      clear hE4 hX3
      go_wp2_with fail
      refine (hor.out _ hX4).mono ?_
      rintro e w5 ⟨rfl, hE5⟩
      have hX5 := hX4.trans hE5
      clear hE5 hX4
      go_wp2_with fail
      refine (hqu.out _ hX5).mono ?_
      rintro e w6 ⟨rfl, hE6⟩
      have hX6 := hX5.trans hE6
      clear hE6 hX5
      go_wp2_with fail
      refine (hex.out _ hX6).mono ?_
      rintro e w7 ⟨rfl, hE7⟩
      have hX7 := hX6.trans hE7
      clear hE7 hX6
      go_wp2_with fail
      refine (hfa.out _ hX7).mono ?_
      rintro e w8 ⟨rfl, hE8⟩
      have hX8 := hX7.trans hE8
      clear hE8 hX7
      go_wp2_with fail
      refine (hfo.out _ hX8).mono ?_
      rintro e w9 ⟨rfl, hE9⟩
      have hX9 := hX8.trans hE9
      clear hE9 hX8
      go_wp2_with fail
      refine (htr.out _ hX9).mono ?_
      rintro e w10 ⟨rfl, hE10⟩
      have hX10 := hX9.trans hE10
      clear hE10 hX9
      go_wp2_with fail
      refine (hke.out _ hX10).mono ?_
      rintro e w11 ⟨rfl, hE11⟩
      have hX11 := hX10.trans hE11
      clear hE11 hX10
      go_wp2_with fail
      refine (hv1.out _ hX11).mono ?_
      rintro e w12 ⟨rfl, hE12⟩
      have hX12 := hX11.trans hE12
      clear hE12 hX11
      go_wp2_with fail
      refine (hv2.out _ hX12).mono ?_
      rintro e w13 ⟨rfl, hE13⟩
      have hX13 := hX12.trans hE13
      clear hE13 hX12
      go_wp2_with fail
      refine (hv3.out _ hX13).mono ?_
      rintro e w14 ⟨rfl, hE14⟩
      have hX14 := hX13.trans hE14
      clear hE14 hX13
      go_wp2_with fail
      go_ret
      exact ⟨rfl, hX14⟩
end Go.Proofs.YtcklioolpicmcaaGreatDoor
/- what the rows' frames need: the listed variables, matrices opened -/
namespace Go.Proofs.YtcklioolpicmcaaGreatDoor
open Go.ChangeShapes Go.WideShapes Go.ChangeAt Go.WideMaps Go.WideElems Go.RowKit Go.Deep
theorem fr_own : ownKnob Tryz.prog.godebug = none := by kernel_rfl
theorem fr_laidOut : laidOutB Tryz.prog = true := by kernel_rfl
theorem fr_pow : Tryz.prog.globalNamed "internal/strconv.uint64pow10" = some 3 := by kernel_rfl
theorem fr_powT : (Tryz.prog.globals[3]?).map (·.type) = some 272 := by kernel_rfl
theorem fr_rng : Tryz.prog.globalNamed "strconv.ErrRange" = some 2 := by kernel_rfl
theorem fr_rngT : (Tryz.prog.globals[2]?).map (·.type) = some 192 := by kernel_rfl
theorem fr_c20 : Tryz.prog.cellsOf 272 = 20 := by kernel_rfl
theorem fr_cu : Tryz.prog.cellsOf 208 = 1 := by kernel_rfl
theorem fr_cE : Tryz.prog.cellsOf 277 = 1 := by kernel_rfl
theorem fr_cS : Tryz.prog.cellsOf 9 = 1 := by kernel_rfl
theorem fr_cR : Tryz.prog.cellsOf 32 = 1 := by kernel_rfl
theorem fr_cI : Tryz.prog.cellsOf 3 = 1 := by kernel_rfl
theorem fr_star : "*" ++ "errors.errorString" = "*errors.errorString" := by decide
theorem fr_ptr (u : TypeId) (h : Tryz.prog.typeName? 3 u = some "*errors.errorString") : u = 275 :=
  typeName_ptr_named (nm := "errors.errorString") (by rw [fr_star]; kernel_rfl) (by kernel_rfl) (by decide) u (by rw [fr_star]; exact h)
abbrev fr_list : List (String × DataW Unit) := [("math/bits.deBruijn32tab", Rows.laid_math_bits_deBruijn32tab), ("math/bits.deBruijn64tab", Rows.laid_math_bits_deBruijn64tab), ("internal/strconv.uint64pow10", Rows.laid_internal_strconv_uint64pow10), ("strconv.ErrRange", Rows.laid_strconv_ErrRange), ("strconv.ErrSyntax", Rows.laid_strconv_ErrSyntax)]
theorem fr_tab : (Rows.laid_internal_strconv_uint64pow10 : DataW Unit) = Lib.tabData .u64 Lib.pow10Tab := by kernel_rfl
theorem laid_of {W : World} (h : laidMetH Tryz.prog fr_list W) : Laid W := by
  rw [MakeChecks.laidMetH_plain _ _ _ (by kernel_rfl)] at h
  have h3 := h.tail.tail
  rw [fr_tab] at h3
  refine ⟨Lib.tabIs_of_head fr_pow fr_powT Tryz.underlying272 Tryz.underlying208 fr_cu fr_c20 h3, ?_⟩
  obtain ⟨a, s, hv, _⟩ := laid_sentinel h3.tail fr_rng fr_rngT Tryz.underlying192 fr_ptr Tryz.underlying275 Tryz.underlying277 rfl rfl Tryz.underlying9 fr_cE fr_cS
  exact ⟨_, _, hv⟩
/-- The door's own heap meets the condition. -/
theorem door_met (os : Os) (args : Array Value) : laidMetH Tryz.prog fr_list ((World.doorLaid Tryz.prog 400 os).forCall (fun _ _ => 0) ⟨#[], args, []⟩).memory :=
  laidMetH_of_parts3 (fuel := 8) (laidMet_of_run' 8 (by kernel_rfl) (by kernel_rfl)) (by kernel_rfl) (by kernel_rfl)
theorem row_open {W : World} {A : Option Addr} {L C : Nat} {Z : List Int} {base : Nat} (h1 : L ≤ C) (h2 : Z.length = C) (h3 : A = none → C = 0) (h4 : ∀ a', A = some a' → base ≤ a'.block ∧ ∀ c, c < C → W.cell? (a'.add c) = some (.int .i64 (Z.getD c 0))) : RowR W (.slice A L C) (Z.take L) := by
  have hl : (Z.take L).length = L := by rw [List.length_take]; omega
  cases A with
  | none =>
    have hC := h3 rfl
    refine ⟨none, 0, 0, C, by rw [hl], by rw [hl]; exact h1, fun h => ?_, fun i x hx => ?_⟩
    · rw [is_length, hl] at h; omega
    · have := (List.getElem?_eq_some_iff.1 hx).1
      rw [is_length, hl] at this; omega
  | some a =>
    obtain ⟨_, hc⟩ := h4 a rfl
    have hsp : 0 < L → a.spot = none := fun h => by simpa [Addr.add] using World.cell?_spot (hc 0 (by omega))
    obtain ⟨b, o, sp⟩ := a
    refine ⟨some ⟨b, o, sp⟩, b, o, C, by rw [hl], by rw [hl]; exact h1, fun h => ?_, fun i x hx => ?_⟩
    · rw [is_length, hl] at h
      have := hsp h
      simp at this
      rw [this]
    · have hi := (List.getElem?_eq_some_iff.1 hx).1
      rw [is_length, hl] at hi
      have := hsp (by omega)
      simp at this
      subst this
      rw [is_get (by rw [hl]; exact hi)] at hx
      have e := Option.some.inj hx
      rw [← e, ← add_plain, hc i (by omega), List.getElem_take, getD_get (by omega)]
theorem mat_open {H : Type} {enc : TypeId × Value → H} {W : World} {base : Nat} {held : Bool} {fuel : Nat} {v : Value} {x : DataW H × List MemPlace} (hv : v.cells.toList = [v])
    (h : DataW.trod enc Tryz.prog W base (fun _ => true) held fuel 29 v.cells.toList = some x) : ∃ M, MatR W v M := by
  rw [hv] at h
  rcases open_int_rows Tryz.underlying29 Tryz.underlying32 Tryz.underlying3 fr_cR fr_cI h with ⟨hcs, _⟩ | ⟨a, len, cap, A, L, C, Z, hcs, _, hl, _, _, hrows⟩
  · obtain rfl : v = .slice none 0 0 := by simpa using hcs
    exact ⟨[], none, 0, 0, 0, [], rfl, Nat.le_refl _, rfl, Sl.nil _ _ _ _, fun i h => by simp at h⟩
  · obtain rfl : v = .slice (some a) len cap := by simpa using hcs
    have hsp : 0 < len → a.spot = none := fun h => by simpa [Addr.add] using World.cell?_spot (hrows 0 (by omega)).1
    obtain ⟨b, o, sp⟩ := a
    refine ⟨(List.range len).map fun r => (Z r).take (L r), some ⟨b, o, sp⟩, b, o, cap, (List.range len).map fun r => .slice (A r) (L r) (C r), by simp, by simpa using hl, by simp, ⟨fun h => ?_, fun i y hy => ?_⟩, fun i hi hi' => ?_⟩
    · have := hsp (by simpa using h)
      simp at this
      rw [this]
    · have hi := (List.getElem?_eq_some_iff.1 hy).1
      have hil : i < len := by simpa using hi
      have := hsp (by omega)
      simp at this
      subst this
      have e : y = .slice (A i) (L i) (C i) := by
        rw [List.getElem?_eq_getElem hi] at hy
        have := Option.some.inj hy
        rw [← this]; simp
      rw [e, ← add_plain]
      exact (hrows i (by omega)).1
    · have hil : i < len := by simpa using hi
      obtain ⟨_, r1, _, r3, _, r5, r6⟩ := hrows i (by omega)
      have := row_open r1 r3 r5 r6
      simpa using this
end Go.Proofs.YtcklioolpicmcaaGreatDoor
/- matrices among arguments, with a bound of their length -/
namespace Go.Proofs.YtcklioolpicmcaaGreatDoor
open Go.ChangeShapes Go.WideShapes Go.ChangeAt Go.WideMaps Go.WideElems Go.RowKit Go.Deep
theorem mat_open2 {H : Type} {enc : TypeId × Value → H} {W : World} {base : Nat} {held : Bool} {fuel : Nat} {a0 : Option Addr} {len0 cap0 : Nat} {x : DataW H × List MemPlace}
    (h : DataW.trod enc Tryz.prog W base (fun _ => true) held fuel 29 (Value.slice a0 len0 cap0).cells.toList = some x) : ∃ M, MatR W (.slice a0 len0 cap0) M ∧ M.length ≤ 9223372036854775807 := by
  obtain ⟨M, hM⟩ := mat_open (by simp [Value.cells]) h
  have hl : len0 ≤ maxLen := by
    rw [show (Value.slice a0 len0 cap0).cells.toList = [.slice a0 len0 cap0] by simp [Value.cells]] at h
    rcases open_int_rows Tryz.underlying29 Tryz.underlying32 Tryz.underlying3 fr_cR fr_cI h with ⟨hcs, _⟩ | ⟨a, len, cap, A, L, C, Z, hcs, _, hl, hm, _, _⟩
    · injection hcs with h1 _
      injection h1 with _ h2 _
      omega
    · injection hcs with h1 _
      injection h1 with _ h2 _
      omega
  refine ⟨M, hM, ?_⟩
  obtain ⟨sa, gb, go, cap, vs, e, _⟩ := hM
  injection e with _ h2 _
  unfold maxLen at hl
  omega
end Go.Proofs.YtcklioolpicmcaaGreatDoor
/- rows among arguments -/
namespace Go.Proofs.YtcklioolpicmcaaGreatDoor
open Go.ChangeShapes Go.WideShapes Go.ChangeAt Go.WideMaps Go.WideElems Go.RowKit Go.Deep
theorem introw_open {H : Type} {enc : TypeId × Value → H} {W : World} {base : Nat} {held : Bool} {fuel : Nat} {v : Value} {x : DataW H × List MemPlace} (hv : v.cells.toList = [v])
    (h : DataW.trod enc Tryz.prog W base (fun _ => true) held fuel 32 v.cells.toList = some x) : ∃ r, RowR W v r := by
  rw [hv] at h
  rcases open_ints Tryz.underlying32 Tryz.underlying3 fr_cI h with ⟨hcs, _⟩ | ⟨a, len, cap, zs, hcs, hb, hl, _, hz, _, hc, _⟩
  · obtain rfl : v = .slice none 0 0 := by simpa using hcs
    exact ⟨[], row_open (base := 0) (Z := []) (Nat.le_refl 0) rfl (fun _ => rfl) (fun a' h => by cases h)⟩
  · obtain rfl : v = .slice (some a) len cap := by simpa using hcs
    rw [if_pos rfl] at hz
    exact ⟨zs.take len, row_open (base := base) hl hz (fun h => by cases h) (fun a' h => by cases h; exact ⟨hb, fun c hcc => hc c (by omega)⟩)⟩
end Go.Proofs.YtcklioolpicmcaaGreatDoor
/- keys among arguments -/
namespace Go.Proofs.YtcklioolpicmcaaGreatDoor
open Go.ChangeShapes Go.WideShapes Go.ChangeAt Go.WideMaps Go.WideElems Go.RowKit Go.Deep
theorem fr_cK : Tryz.prog.cellsOf 80 = 2 := by kernel_rfl
theorem i64_bounds {n : Int} (h : (Lit.int .i64 n).wf = true) : I64 n := by
  simp only [Lit.wf, Bool.and_eq_true, decide_eq_true_eq] at h
  have e1 : IntKind.i64.min = -9223372036854775808 := by rfl
  have e2 : IntKind.i64.max = 9223372036854775807 := by rfl
  unfold I64
  omega
set_option maxRecDepth 100000 in
theorem key_open {H : Type} {enc : TypeId × Value → H} {W : World} {base : Nat} {sp : Nat → Bool} {held : Bool} {fuel : Nat} {cs : Array Value} {x : DataW H × List MemPlace} (hs : cs.size = 2)
    (h : DataW.trod enc Tryz.prog W base sp held fuel 80 cs.toList = some x) : ∃ a b, cs = #[.int .i64 a, .int .i64 b] ∧ I64 a ∧ I64 b := by
  obtain ⟨xs, n, _, _, _, hxl, hx⟩ := DataW.trod_struct Tryz.underlying80 h
  have hx3 : xs.length = 2 := hxl
  have h0 := hx 0 _ rfl
  have h1 := hx 1 _ rfl
  rw [List.getElem?_eq_getElem (by omega)] at h0 h1
  have h0' : DataW.trod enc Tryz.prog W base sp held n 3 ((cs.toList.drop 0).take 1) = some xs[0] := h0
  have h1' : DataW.trod enc Tryz.prog W base sp held n 3 ((cs.toList.drop 1).take 1) = some xs[1] := h1
  obtain ⟨r, hr, _, wr⟩ := DataW.trod_int Tryz.underlying3 h0'
  obtain ⟨c, hc, _, wc⟩ := DataW.trod_int Tryz.underlying3 h1'
  obtain ⟨l⟩ := cs
  match l, hs with
  | [a, b], _ =>
    simp at hr hc
    subst hr hc
    exact ⟨r, c, rfl, i64_bounds wr, i64_bounds wc⟩
end Go.Proofs.YtcklioolpicmcaaGreatDoor
/- numbers of 8 bits among arguments -/
namespace Go.Proofs.YtcklioolpicmcaaGreatDoor
open Go.ChangeShapes Go.WideShapes Go.ChangeAt Go.WideMaps Go.WideElems Go.RowKit Go.Deep
theorem fr_c8 : Tryz.prog.cellsOf 22 = 1 := by kernel_rfl
theorem fr_cu8 : Tryz.prog.cellsOf 5 = 1 := by kernel_rfl
theorem take_one {l : List Value} {k : Nat} {x : Value} (h : (l.drop k).take 1 = [x]) : l[k]? = some x := by
  have := congrArg (·[0]?) h
  simpa [List.getElem?_take] using this
theorem i8_bounds {n : Int} (h : (Lit.int .i8 n).wf = true) : -128 ≤ n ∧ n ≤ 127 := by
  simp only [Lit.wf, Bool.and_eq_true, decide_eq_true_eq] at h
  have e1 : IntKind.i8.min = -128 := by rfl
  have e2 : IntKind.i8.max = 127 := by rfl
  omega
theorem u8_bounds {n : Int} (h : (Lit.int .u8 n).wf = true) : 0 ≤ n ∧ n ≤ 255 := by
  simp only [Lit.wf, Bool.and_eq_true, decide_eq_true_eq] at h
  have e1 : IntKind.u8.min = 0 := by rfl
  have e2 : IntKind.u8.max = 255 := by rfl
  omega
theorem i8_cells {H : Type} {enc : TypeId × Value → H} {W : World} {base : Nat} {sp : Nat → Bool} {held : Bool} {fuel n : Nat} {t : TypeId} {l : List Value} {x : DataW H × List MemPlace} (ht : Tryz.prog.underlying t = some (.array n 22))
    (h : DataW.trod enc Tryz.prog W base sp held fuel t l = some x) : ∀ j, j < n → ∃ z : Int, l[j]? = some (.int .i8 z) ∧ -128 ≤ z ∧ z ≤ 127 := by
  obtain ⟨xs, m, _, _, _, hxl, hx⟩ := DataW.trod_array ht h
  intro j hj
  have h1 := hx j hj
  rw [fr_c8, Nat.mul_one, List.getElem?_eq_getElem (by omega)] at h1
  obtain ⟨z, hz, _, hw⟩ := DataW.trod_int Tryz.underlying22 h1
  exact ⟨z, take_one hz, i8_bounds hw⟩
end Go.Proofs.YtcklioolpicmcaaGreatDoor
