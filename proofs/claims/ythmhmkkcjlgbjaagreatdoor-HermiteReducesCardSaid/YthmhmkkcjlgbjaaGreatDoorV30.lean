/- Part 30 of the proof of the claim: contracts of the functions that it reaches, and plain laws; no condition. -/
import Derived.Test.YthmhmkkcjlgbjaaGreatDoorV20
/- schismaref07: Check -/
namespace Go.Proofs.YthmhmkkcjlgbjaaGreatDoor
open Go.RowKit Go.Sort
set_option maxRecDepth 100000 in
set_option maxHeartbeats 1000000 in
theorem Check07_any {w : World} {v : Value} {M : Mx} (hM : MatR w v M) :
    Calls Tryz.prog 20 #[v] w fun e w' => e = .returned (.int .i64 (checkM M)) ∧ Ext w w' := by
  obtain ⟨sa, gb, go, cap, vs, rfl, hcap, hvl, hS, hr⟩ := hM
  by_cases hbig : 12 < M.length
  · have hbi : (12 : Int) < (M.length : Int) := by omega
    have he : checkM M = 4 := by unfold checkM; rw [if_pos hbig]
    rw [he]
    clear he hS hr hvl
    go_enter Tryz.func20, Tryz.ntmps20
    go_wp2_with fail
    go_ret
    exact ⟨rfl, Ext.refl _⟩
  have he : checkM M = chk (M.getD 0 []).length M := by unfold checkM; rw [if_neg hbig]
  rw [he]
  obtain ⟨E0, hE0⟩ : ∃ E0, E0 = chk (M.getD 0 []).length M := ⟨_, rfl⟩
  rw [← hE0]
  have HE0 := Lib.hid hE0
  have hml : M.length ≤ 12 := by omega
  have hmi : (M.length : Int) ≤ 12 := by omega
  have HS := Lib.hid hS
  have HV := Lib.hid hvl
  have HR := Lib.hid hr
  clear hS hvl hr he hbig hE0
  go_enter Tryz.func20, Tryz.ntmps20
  go_wp2_with fail
  go_loopw [3] (fun idx wr => ∃ i : Nat, i ≤ M.length ∧ idx = .int .i64 i ∧ Hid (∀ j (h : j < M.length), j < i → chkR (M.getD 0 []).length M[j] = 0) ∧ Ext w wr) (fun idx _ => M.length - (intOf idx).toNat)
  case atStart => exact ⟨0, by omega, by go_num, Lib.hid (fun j _ h => by omega), Ext.refl _⟩
  case round =>
    obtain ⟨i, hi, rfl, Hz, hE⟩ := hrel
    generalize wr = X at *
    by_cases hlt : i < M.length
    · have hii : (i : Int) < (M.length : Int) := by omega
      have hi0 : 0 < M.length := by omega
      have hi0i : (0 : Int) < (M.length : Int) := by omega
      obtain rfl := HS.out.addr (by rw [HV.out]; omega)
      obtain ⟨sr, br, or, cr, hrow, hrc, hSr⟩ := MatR.row HS.out HV.out HR.out hlt
      obtain ⟨s0, b0, o0, c0, hrow0, hrc0, hS0⟩ := MatR.row HS.out HV.out HR.out hi0
      have hrow' := hE.cell hrow
      have hrow0' := hE.cell hrow0
      rw [Nat.add_zero] at hrow0'
      obtain ⟨c, hc⟩ : ∃ c, c = (M.getD 0 []).length := ⟨_, rfl⟩
      have hc0 : M[0].length = c := by rw [hc, getD_get hi0]
      rw [hc0] at hrow0'
      obtain ⟨n, hn⟩ : ∃ n, n = M[i].length := ⟨_, rfl⟩
      rw [← hn] at hrow'
      have HC := Lib.hid hc
      have Hn := Lib.hid hn
      have hat : chkR c M[i] ≠ 0 → chk (M.getD 0 []).length M = chkR c M[i] := fun h => by
        rw [hc]
        exact chk_at _ M i hlt (fun j hj => Hz.out j (by omega) hj) (by rw [← hc]; exact h)
      have Hat := Lib.hid hat
      have HSr := Lib.hid (hSr.ext hE)
      clear hrow hrow0 hrc0 hS0 hc hc0 hn hat hSr
      by_cases h12 : 12 < n
      · have h12i : (12 : Int) < (n : Int) := by omega
        have hch : chkR c M[i] = 4 := by unfold chkR; rw [← Hn.out, if_pos h12]
        have Hch := Lib.hid hch
        clear hch
        go_wp2_with fail
        go_ret
        exact ⟨by rw [HE0.out, Hat.out (by rw [Hch.out]; decide), Hch.out]; rfl, hE⟩
      · have h12i : (n : Int) ≤ 12 := by omega
        have h12d : decide ((12 : Int) < (n : Int)) = false := decide_eq_false (by omega)
        by_cases hnc : n = c
        · subst hnc
          clear h12
          go_wp2_with fail
          go_quiet (fail)
          have hE2 := hE.drewN 1
          go_wp2_with fail
          go_loopw [4] (fun idx wr => ∃ k : Nat, k ≤ n ∧ idx = .int .i64 k ∧ Hid (∀ j, j < k → grt (M[i].getD j 0) = false) ∧ Ext X wr) (fun idx _ => n - (intOf idx).toNat)
          case atStart => exact ⟨0, by omega, by go_num, Lib.hid (fun j h => by omega), (Ext.refl _).drewN _⟩
          case round =>
            obtain ⟨k, hk, rfl, Hg, hEk⟩ := hrel
            generalize wr = Y at *
            by_cases hkn : k < n
            · have hki : (k : Int) < (n : Int) := by omega
              have hkM : k < M[i].length := by rw [← Hn.out]; exact hkn
              have c1 := (HSr.out.ext hEk).cell k (.int .i64 (M[i][k])) (is_get hkM)
              obtain rfl := HSr.out.addr (by rw [is_length, ← Hn.out]; omega)
              have hrowY := hEk.cell hrow'
              obtain ⟨z, hz⟩ : ∃ z, z = M[i][k] := ⟨_, rfl⟩
              rw [← hz] at c1
              have Hz2 := Lib.hid (show M[i].getD k 0 = z by rw [hz, getD_get hkM])
              have hno : grt z = true → chkR n M[i] = 4 := fun h => by
                have : M[i].any grt = true := List.any_eq_true.2 ⟨M[i][k], List.getElem_mem hkM, by rw [← hz]; exact h⟩
                unfold chkR; rw [← Hn.out, if_neg (by omega), if_neg (by omega), this]; rfl
              have Hno := Lib.hid hno
              clear hz hno
              by_cases g1 : 1000000000 < z
              · have hch := Hno.out (by unfold grt; exact decide_eq_true (.inl g1))
                have Hch := Lib.hid hch
                clear hch
                go_wp2_with fail
                go_ret
                exact ⟨by rw [HE0.out, Hat.out (by rw [Hch.out]; decide), Hch.out]; rfl, hE.trans hEk⟩
              · have g1d : decide (1000000000 < z) = false := decide_eq_false g1
                by_cases g2 : z < -1000000000
                · have hch := Hno.out (by unfold grt; exact decide_eq_true (.inr g2))
                  have Hch := Lib.hid hch
                  clear hch
                  go_wp2_with fail
                  go_ret
                  exact ⟨by rw [HE0.out, Hat.out (by rw [Hch.out]; decide), Hch.out]; rfl, hE.trans hEk⟩
                · have g2d : decide (z < -1000000000) = false := decide_eq_false g2
                  have Hgz := Lib.hid (show grt z = false by unfold grt; exact decide_eq_false (by omega))
                  clear g1 g2
                  go_wp2_with fail
                  go_roundw
                  case rel => exact ⟨k + 1, by omega, by go_num, Lib.hid (fun j hj => by
                    by_cases e : j = k
                    · subst e; rw [Hz2.out]; exact Hgz.out
                    · exact Hg.out j (by omega)), hEk⟩
                  case measure => simp [intOf] <;> omega
            · have hrowY := hEk.cell hrow'
              have Hok := Lib.hid (show chkR n M[i] = 0 by
                have hany : M[i].any grt = false := by
                  cases h : M[i].any grt
                  · rfl
                  · obtain ⟨z, hz, hg⟩ := List.any_eq_true.1 h
                    obtain ⟨j, hj, rfl⟩ := List.getElem_of_mem hz
                    have := Hg.out j (by have := Hn.out; omega)
                    rw [getD_get hj] at this
                    rw [this] at hg; cases hg
                unfold chkR; rw [← Hn.out, if_neg (by omega), if_neg (by omega), hany]; rfl)
              go_wp2_with fail
              go_roundw
              case rel => exact ⟨i + 1, by omega, by go_num, Lib.hid (fun j h hj => by
                by_cases e : j = i
                · subst e; rw [← HC.out]; exact Hok.out
                · exact Hz.out j h (by omega)), hE.trans hEk⟩
              case measure => simp [intOf] <;> omega
        · have hch : chkR c M[i] = 5 := by unfold chkR; rw [← Hn.out, if_neg h12, if_pos hnc]
          have Hch := Lib.hid hch
          have hnb : ((n : Int) == (c : Int)) = false := beq_eq_false_iff_ne.2 (by omega)
          have hnb2 : ((n : Int) != (c : Int)) = true := by simp [bne, hnb]
          have hnc' : ¬ (n : Int) = (c : Int) := by omega
          clear hch hnc h12
          go_wp2_with fail
          go_quiet (fail)
          go_wp2_with fail
          go_ret
          exact ⟨by rw [HE0.out, Hat.out (by rw [Hch.out]; decide), Hch.out]; rfl, hE.drewN _⟩
    · have Hch := Lib.hid (chk_all (M.getD 0 []).length M (fun j h => Hz.out j h (by omega)))
      go_wp2_with fail
      go_ret
      exact ⟨by rw [HE0.out, Hch.out]; rfl, hE⟩
end Go.Proofs.YthmhmkkcjlgbjaaGreatDoor
/- schismalaw07: few, none -/
namespace Go.Proofs.YthmhmkkcjlgbjaaGreatDoor
open Go.RowKit Go.Sort
/-- few, but for the number of rows. -/
def fewRow (n : Nat) (r : List Int) : Bool := !(decide (5 < r.length) && (decide (1 < n) || decide (14 < r.length)))
def fewN (n : Nat) : Bool := decide (n ≤ 5) || (decide (12 ≤ n) && decide (n ≤ 14))
def fewM (M : Mx) : Bool := fewN M.length && M.all (fewRow M.length)
set_option maxRecDepth 100000 in
set_option maxHeartbeats 1000000 in
theorem few_any {w : World} {v : Value} {M : Mx} (hM : MatR w v M) :
    Calls Tryz.prog 19 #[v] w fun e w' => e = .returned (.bool (fewM M)) ∧ Ext w w' := by
  obtain ⟨sa, gb, go, cap, vs, rfl, hcap, hvl, hS, hr⟩ := hM
  have HS := Lib.hid hS
  have HV := Lib.hid hvl
  have HR := Lib.hid hr
  clear hS hvl hr
  obtain ⟨n, hn⟩ : ∃ n, n = M.length := ⟨_, rfl⟩
  rw [← hn]
  have Hn := Lib.hid hn
  clear hn hcap
  by_cases h1 : fewN n = true
  · have Hall : Hid (fewM M = M.all (fewRow n)) := Lib.hid (by unfold fewM; rw [← Hn.out, h1]; rfl)
    have H1 := Lib.hid h1
    have hA : (n : Int) ≤ 5 ∨ ((5 : Int) < n ∧ (12 : Int) ≤ n ∧ (n : Int) ≤ 14) := by
      unfold fewN at h1
      by_cases h5 : n ≤ 5
      · exact .inl (by omega)
      · rw [decide_eq_false h5, Bool.false_or, Bool.and_eq_true] at h1
        have ha := of_decide_eq_true h1.1
        have hb := of_decide_eq_true h1.2
        exact .inr ⟨by omega, by omega, by omega⟩
    have hnb : n ≤ 1000000 := by omega
    clear h1
    go_enter Tryz.func19, Tryz.ntmps19
    rcases hA with h | ⟨h5, h12, h14⟩
    focus
      have hd : decide ((5 : Int) < (n : Int)) = false := decide_eq_false (by omega)
      go_wp2_with fail
    rotate_left
    focus
      have hd : decide ((n : Int) < 12) = false := decide_eq_false (by omega)
      have hd2 : decide ((14 : Int) < (n : Int)) = false := decide_eq_false (by omega)
      go_wp2_with fail
    all_goals
      go_loopw [3] (fun idx wr => ∃ i : Nat, i ≤ n ∧ idx = .int .i64 i ∧ Hid (∀ j, (h : j < M.length) → j < i → fewRow n M[j] = true) ∧ Ext w wr) (fun idx _ => n - (intOf idx).toNat)
      case atStart => exact ⟨0, by omega, by go_num, Lib.hid (fun j _ h => by omega), Ext.refl _⟩
      case round =>
        obtain ⟨i, hi, rfl, Hz, hE⟩ := hrel
        generalize wr = X at *
        by_cases hlt : i < n
        · have hii : (i : Int) < (n : Int) := by omega
          have hiM : i < M.length := by rw [← Hn.out]; exact hlt
          obtain rfl := HS.out.addr (by rw [HV.out]; omega)
          obtain ⟨sr, br, or, cr, hrow, hrc, hSr⟩ := MatR.row HS.out HV.out HR.out hiM
          have hrow' := hE.cell hrow
          obtain ⟨l, hl⟩ : ∃ l, l = M[i].length := ⟨_, rfl⟩
          rw [← hl] at hrow'
          have Hl := Lib.hid hl
          clear hrow hrc hSr hl
          cases hf : fewRow n M[i]
          · have Hno := Lib.hid (show fewM M = false by
              rw [Hall.out]
              cases h : M.all (fewRow n)
              · rfl
              · have := List.all_eq_true.1 h _ (List.getElem_mem hiM); rw [hf] at this; cases this)
            unfold fewRow at hf
            rw [← Hl.out, Bool.not_eq_false', Bool.and_eq_true] at hf
            have h5 : (5 : Int) < (l : Int) := by have := of_decide_eq_true hf.1; omega
            by_cases hn1 : 1 < n
            · have hn1i : (1 : Int) < (n : Int) := by omega
              clear hf
              go_wp2_with fail
              go_ret
              exact ⟨by rw [Hno.out]; rfl, hE⟩
            · have hn1i : (n : Int) ≤ 1 := by omega
              have hn1d : decide ((1 : Int) < (n : Int)) = false := decide_eq_false (by omega)
              have h14 : (14 : Int) < (l : Int) := by
                rcases (by simpa only [Bool.or_eq_true] using hf.2 : decide (1 < n) = true ∨ decide (14 < l) = true) with h | h
                · exact absurd (of_decide_eq_true h) hn1
                · have := of_decide_eq_true h; omega
              clear hf
              go_wp2_with fail
              go_ret
              exact ⟨by rw [Hno.out]; rfl, hE⟩
          · have Hst := Lib.hid (show ∀ j, (h : j < M.length) → j < i + 1 → fewRow n M[j] = true from fun j h hj => by
              by_cases e : j = i
              · subst e; exact hf
              · exact Hz.out j h (by omega))
            unfold fewRow at hf
            rw [← Hl.out, Bool.not_eq_true'] at hf
            by_cases h5 : 5 < l
            · have h5i : (5 : Int) < (l : Int) := by omega
              rw [decide_eq_true h5, Bool.true_and, Bool.or_eq_false_iff] at hf
              have hn1 : ¬ 1 < n := of_decide_eq_false hf.1
              have h14 : ¬ 14 < l := of_decide_eq_false hf.2
              have hn1i : (n : Int) ≤ 1 := by omega
              have hn1d : decide ((1 : Int) < (n : Int)) = false := decide_eq_false (by omega)
              have h14d : decide ((14 : Int) < (l : Int)) = false := decide_eq_false (by omega)
              clear hf hn1 h14 h5
              go_wp2_with fail
              go_roundw
              case rel => exact ⟨i + 1, by omega, by go_num, Hst, hE⟩
              case measure => simp [intOf] <;> omega
            · have h5i : (l : Int) ≤ 5 := by omega
              have h5d : decide ((5 : Int) < (l : Int)) = false := decide_eq_false (by omega)
              clear hf h5
              go_wp2_with fail
              go_roundw
              case rel => exact ⟨i + 1, by omega, by go_num, Hst, hE⟩
              case measure => simp [intOf] <;> omega
        · have Hyes := Lib.hid (show fewM M = true by
            rw [Hall.out]
            refine List.all_eq_true.2 fun r hr => ?_
            obtain ⟨j, hj, rfl⟩ := List.getElem_of_mem hr
            exact Hz.out j hj (by have := Hn.out; omega))
          go_wp2_with fail
          go_ret
          exact ⟨by rw [Hyes.out]; rfl, hE⟩
  · have Hno := Lib.hid (show fewM M = false by unfold fewM; rw [← Hn.out, Bool.eq_false_iff.2 h1]; rfl)
    have hA : ((5 : Int) < n ∧ (n : Int) < 12) ∨ ((5 : Int) < n ∧ (12 : Int) ≤ n ∧ (14 : Int) < n) := by
      have h2 := Bool.eq_false_iff.2 h1
      unfold fewN at h2
      rw [Bool.or_eq_false_iff, Bool.and_eq_false_iff] at h2
      have h5 : ¬ n ≤ 5 := of_decide_eq_false h2.1
      rcases h2.2 with h | h
      · have := of_decide_eq_false h; exact .inl ⟨by omega, by omega⟩
      · have := of_decide_eq_false h; exact .inr ⟨by omega, by omega, by omega⟩
    rw [Hno.out]
    clear h1
    go_enter Tryz.func19, Tryz.ntmps19
    rcases hA with ⟨h5, h12⟩ | ⟨h5, h12, h14⟩
    · go_wp2_with fail
      go_ret
      exact ⟨rfl, Ext.refl _⟩
    · have hd : decide ((n : Int) < 12) = false := decide_eq_false (by omega)
      go_wp2_with fail
      go_ret
      exact ⟨rfl, Ext.refl _⟩
/-- none without rows: whether the matrix is empty. -/
theorem none_nil {sa : Option Addr} {n cp : Nat} (w : World) : Calls Tryz.prog 24 #[.slice sa n cp, .slice none 0 0] w fun e w' => e = .returned (.bool (decide (n = 0))) ∧ Ext w w' := by
  by_cases h : n = 0
  · subst h
    go_enter Tryz.func24, Tryz.ntmps24
    go_wp2_with fail
    go_loop [5] (fun idx => idx = .int .i64 0) (fun _ => 0)
    case atStart => rfl
    case round =>
      obtain rfl := hrel
      go_wp2_with fail
      go_ret
      exact ⟨rfl, Ext.refl _⟩
  · rw [decide_eq_false h]
    have h0 : ((n : Int) == 0) = false := beq_eq_false_iff_ne.2 (by omega)
    go_enter Tryz.func24, Tryz.ntmps24
    go_wp2_with fail
    go_loop [5] (fun idx => idx = .int .i64 0) (fun _ => 0)
    case atStart => rfl
    case round =>
      obtain rfl := hrel
      go_wp2_with fail
      go_ret
      exact ⟨rfl, Ext.refl _⟩
end Go.Proofs.YthmhmkkcjlgbjaaGreatDoor
