/- Part 22 of the proof of the claim: contracts of the functions that it reaches, and plain laws; no condition. -/
import Derived.Test.YtkjnjmihfonilaaGreatDoorV21
import Derived.Test.YtkjnjmihfonilaaGreatDoorV12
import Derived.Test.YtkjnjmihfonilaaGreatDoorV08
import Derived.OrdersHeld
namespace Go.Proofs.YtkjnjmihfonilaaGreatDoor
open Go.RowKit Go.Sort
theorem pivotC_any (z : Int) (w : World) : Calls Tryz.prog 201 #[.int .i64 z] w fun e w' => e = .returned (.bool (decide (z ≠ 0))) ∧ Ext w w' := by
  by_cases h : z = 0
  · subst h
    go_enter Tryz.func201, Tryz.ntmps201
    go_wp2
    go_ret
    exact ⟨rfl, Ext.refl _⟩
  · have hb : decide (z ≠ 0) = true := decide_eq_true h
    rw [hb]
    have h1 : (z == 0) = false := beq_eq_false_iff_ne.2 h
    have h2 : (z != 0) = true := by simp [bne, h1]
    clear hb
    go_enter Tryz.func201, Tryz.ntmps201
    go_wp2
    go_ret
    exact ⟨rfl, Ext.refl _⟩
theorem pivot_any {w : World} {v : Value} {r : List Int} (hR : RowR w v r) (hl : r.length ≤ 1000000) :
    Calls Tryz.prog 184 #[v] w fun e w' => e = .returned (.int .i64 (pvI r)) ∧ Ext w w' := by
  obtain ⟨sa, gb, go, cap, rfl, hc, hS⟩ := hR
  have hI := index_pivot (cap := cap) (p := fun i => decide (r.getD i 0 ≠ 0)) (k := pvI r) hS (by simpa using hl) (fun i h W hW => by
    have hi : i < r.length := by simpa using h
    have e : (is r)[i] = .int .i64 (r.getD i 0) := by rw [getD_get hi]; simp [is]
    rw [e]
    exact pivotC_any _ W) (by rw [is_length]; exact pvI_ix r)
  rw [is_length] at hI
  have HI := Lib.hid hI
  clear hI hS
  go_enter Tryz.func184, Tryz.ntmps184
  go_wp2_with fail
  refine HI.out.mono ?_
  rintro e W ⟨rfl, hE⟩
  go_wp2_with fail
  go_ret
  exact ⟨rfl, hE⟩
set_option maxRecDepth 100000 in
set_option maxHeartbeats 1000000 in
theorem isFormC_any {w : World} {sa sr : Option Addr} {gb go cap gr or cr bp br p n : Nat} {x r : List Int} (hS : Sl w sa gb go (is x)) (hR : Sl w sr gr or (is r)) (hx : x.length = n) (hr : r.length = n) (hn : n ≤ 1000000) (hp : p < n)
    (c1 : w.cell? ⟨bp, 0, none⟩ = some (.int .i64 p)) (c2 : w.cell? ⟨br, 0, none⟩ = some (.slice sr n cr)) :
    Calls Tryz.prog 186 #[.slice sa n cap, .pointer (some ⟨bp, 0, none⟩), .pointer (some ⟨br, 0, none⟩)] w fun e w' => e = .returned (.bool (decide (x.getD p 0 < 0) || decide (r.getD p 0 ≤ x.getD p 0))) ∧ Ext w w' := by
  have hpi : (p : Int) < (n : Int) := by omega
  have hp0 : (0 : Int) ≤ (p : Int) := by omega
  obtain rfl := hS.addr (by simp; omega)
  obtain rfl := hR.addr (by simp; omega)
  have cx := hS.cell p _ (is_get (by omega))
  have cr' := hR.cell p _ (is_get (by omega))
  rw [getD_get (by omega), getD_get (by omega)]
  generalize x[p] = a at *
  generalize r[p] = b at *
  clear hS hR hx hr
  by_cases h : a < 0
  · have e1 : decide (a < 0) = true := decide_eq_true h
    rw [e1, Bool.true_or]
    go_enter Tryz.func186, Tryz.ntmps186
    go_wp2_with fail
    go_quiet (fail)
    go_wp2_with fail
    go_ret
    exact ⟨rfl, (Ext.refl _).drewN _⟩
  · have e1 : decide (a < 0) = false := decide_eq_false h
    rw [e1, Bool.false_or]
    have h0 : 0 ≤ a := by omega
    clear h
    by_cases h2 : b ≤ a
    · have e2 : decide (b ≤ a) = true := decide_eq_true h2
      rw [e2]
      go_enter Tryz.func186, Tryz.ntmps186
      go_wp2_with fail
      go_quiet (fail)
      go_wp2_with fail
      go_ret
      exact ⟨rfl, (Ext.refl _).drewN _⟩
    · have e2 : decide (b ≤ a) = false := decide_eq_false h2
      rw [e2]
      have h3 : a < b := by omega
      go_enter Tryz.func186, Tryz.ntmps186
      go_wp2_with fail
      go_quiet (fail)
      go_wp2_with fail
      go_ret
      exact ⟨rfl, (Ext.refl _).drewN _⟩
end Go.Proofs.YtkjnjmihfonilaaGreatDoor
namespace Go.Proofs.YtkjnjmihfonilaaGreatDoor
open Go.RowKit Go.Sort
def bad (M : Mx) (i k : Nat) : Bool := decide (eM M k (pv (M.getD i [])) < 0) || decide (eM M i (pv (M.getD i [])) ≤ eM M k (pv (M.getD i [])))
def bef (M : Mx) (i : Nat) : Int := if i = 0 then -1 else pvI (M.getD (i - 1) [])
def rowOk (M : Mx) (i : Nat) : Bool := decide (bef M i < pvI (M.getD i [])) && decide (0 ≤ eM M i (pv (M.getD i []))) && !(anyB (bad M i) i)
def isF (M : Mx) : Bool := !(anyB (fun i => !rowOk M i) M.length)
theorem isF_yes {M : Mx} (h : ∀ i, i < M.length → rowOk M i = true) : isF M = true := by
  unfold isF
  rw [anyB_no (fun i hi => by rw [h i hi]; rfl)]; rfl
theorem isF_no {M : Mx} {i : Nat} (hi : i < M.length) (h : rowOk M i = false) : isF M = false := by
  unfold isF
  rw [anyB_iff.2 ⟨i, hi, by rw [h]; rfl⟩]; rfl
theorem bef_ge (M : Mx) (i : Nat) : -1 ≤ bef M i := by
  unfold bef pvI
  split
  · omega
  · split <;> omega
theorem rowOk_no1 {M : Mx} {i : Nat} (h : pvI (M.getD i []) ≤ bef M i) : rowOk M i = false := by
  unfold rowOk; rw [decide_eq_false (by omega)]; rfl
theorem rowOk_no2 {M : Mx} {i : Nat} (h : eM M i (pv (M.getD i [])) < 0) : rowOk M i = false := by
  unfold rowOk; rw [decide_eq_false (p := 0 ≤ _) (by omega), Bool.and_false]; rfl
theorem rowOk_no3 {M : Mx} {i : Nat} (h : anyB (bad M i) i = true) : rowOk M i = false := by
  unfold rowOk; rw [h]; simp
theorem rowOk_yes {M : Mx} {i : Nat} (h1 : bef M i < pvI (M.getD i [])) (h2 : 0 ≤ eM M i (pv (M.getD i []))) (h3 : anyB (bad M i) i = false) : rowOk M i = true := by
  unfold rowOk; rw [decide_eq_true h1, decide_eq_true h2, h3]; rfl
set_option maxRecDepth 100000 in
set_option maxHeartbeats 1000000 in
theorem isForm_any {w : World} {v : Value} {M : Mx} {n : Nat} (hM : MatR w v M) (hR : Rect n M) (hl : M.length ≤ 1000000) (hn : n ≤ 1000000) :
    Calls Tryz.prog 157 #[v] w fun e w' => e = .returned (.bool (isF M)) ∧ Ext w w' := by
  obtain ⟨sa, gb, go, cap, vs, rfl, hcap, hvl, hS, hr⟩ := hM
  have HS := Lib.hid hS
  have HV := Lib.hid hvl
  have HR := Lib.hid hr
  have HRt := Lib.hid hR
  clear hS hvl hr hR
  go_enter Tryz.func157, Tryz.ntmps157
  go_wp2_with fail
  go_loopw [3, 9] (fun be idx wr => ∃ i : Nat, i ≤ M.length ∧ idx = .int .i64 i ∧ be = .int .i64 (bef M i) ∧ Hid (∀ j, j < i → rowOk M j = true) ∧ Ext w wr) (fun _ idx _ => M.length - (intOf idx).toNat)
  case atStart => exact ⟨0, by omega, by go_num, by unfold bef; rw [if_pos rfl], Lib.hid (fun j h => by omega), Ext.refl _⟩
  case round =>
    obtain ⟨i, hi, rfl, rfl, Hp, hE⟩ := hrel
    generalize wr = X at *
    by_cases hlt : i < M.length
    · have hii : (i : Int) < (M.length : Int) := by omega
      have hic : (i : Int) ≤ (cap : Int) := by omega
      obtain rfl := HS.out.addr (by rw [HV.out]; omega)
      obtain ⟨sr, br, or, cr, hrow, hrc, hSr⟩ := MatR.row HS.out HV.out HR.out hlt
      have hrl : M[i].length = n := HRt.out _ (List.getElem_mem hlt)
      have hrd : M.getD i [] = M[i] := getD_get hlt []
      obtain ⟨r, hrr⟩ : ∃ r, r = M[i] := ⟨_, rfl⟩
      rw [← hrr] at hrow hrc hSr hrl hrd
      rw [hrl] at hrow hrc
      have hrow' := hE.cell hrow
      have Hrl := Lib.hid hrl
      have Hrd := Lib.hid hrd
      have hpc := Lib.hid (fun W (hW : Ext w W) => pivot_any (w := W) (v := .slice sr n cr) (r := r) ⟨sr, br, or, cr, by rw [Hrl.out], by rw [Hrl.out]; exact hrc, hSr.ext hW⟩ (by rw [Hrl.out]; exact hn))
      have hb1 := bef_ge M i
      have HSr := Lib.hid hSr
      clear hrow hrr hrl hrd hSr
      have hEW := (Ext.refl X).alloc (.cells #[.slice sr n cr] 26)
      have hfin : ∀ W, Ext w W → rowOk M i = false → (.returned (.bool false) : Ending) = .returned (.bool (isF M)) ∧ Ext w W := fun W hW h => ⟨by rw [isF_no hlt h], hW⟩
      have Hfin := Lib.hid hfin
      clear hfin
      obtain ⟨be, hbe⟩ : ∃ be, be = bef M i := ⟨_, rfl⟩
      rw [← hbe] at hb1 ⊢
      have Hbe := Lib.hid hbe
      clear hbe
      by_cases h1 : pvI r ≤ be
      · have Hno := Lib.hid (rowOk_no1 (M := M) (i := i) (by rw [Hrd.out, ← Hbe.out]; exact h1))
        obtain ⟨q, hq⟩ : ∃ q, q = pvI r := ⟨_, rfl⟩
        rw [← hq] at h1 hpc
        clear hq
        go_wp2_with fail
        refine (hpc.out _ (hE.trans hEW)).mono ?_
        rintro e W ⟨rfl, hW⟩
        have c5 := hW.cell (show (X.alloc (.cells #[.slice sr n cr] 26)).cell? ⟨X.heap.size, 0, none⟩ = some (.slice sr n cr) by go_simp)
        go_wp2_with fail
        go_ret
        exact Hfin.out _ (((hE.trans hEW).trans hW).alloc _) Hno.out
      · have hpn : pv r < r.length ∧ pvI r = (pv r : Int) := by
          unfold pvI at h1 ⊢
          by_cases h : pv r < r.length
          · exact ⟨h, by rw [if_pos h]⟩
          · rw [if_neg h] at h1; omega
        rw [hpn.2] at hpc h1
        have hpn2 : pv r < n := by have := hpn.1; rw [Hrl.out] at this; exact this
        have hH1 := Lib.hid (show bef M i < pvI (M.getD i []) by rw [Hrd.out, hpn.2, ← Hbe.out]; omega)
        have HpI := Lib.hid hpn.2
        have ha := (HSr.out.ext hE).cell (pv r) (.int .i64 (r.getD (pv r) 0)) (by rw [getD_get hpn.1]; exact is_get hpn.1)
        obtain rfl := HSr.out.addr (by rw [is_length]; omega)
        obtain ⟨p, hp⟩ : ∃ p, p = pv r := ⟨_, rfl⟩
        obtain ⟨a, hae⟩ : ∃ a, a = r.getD p 0 := ⟨_, rfl⟩
        have heM : eM M i (pv (M.getD i [])) = a := by rw [Hrd.out, hae, hp]; unfold eM; rw [Hrd.out]
        rw [← hp] at hpc h1 hpn2 ha HpI
        rw [← hae] at ha
        have Hp1 := Lib.hid hp
        have Hae := Lib.hid hae
        have HeM := Lib.hid heM
        have hpi : (p : Int) < (n : Int) := by omega
        have h1b : be < (p : Int) := by omega
        clear hp hae heM hpn h1
        by_cases h2 : a < 0
        · have Hno := Lib.hid (rowOk_no2 (M := M) (i := i) (by rw [HeM.out]; exact h2))
          go_wp2_with fail
          refine (hpc.out _ (hE.trans hEW)).mono ?_
          rintro e W ⟨rfl, hW⟩
          have c5 := hW.cell (show (X.alloc (.cells #[.slice (some ⟨br, or, none⟩) n cr] 26)).cell? ⟨X.heap.size, 0, none⟩ = some (.slice (some ⟨br, or, none⟩) n cr) by go_simp)
          have c6 := hW.cell (hEW.cell ha)
          have l6 := World.block_lt_of_cell? _ _ c6
          have l5 := World.block_lt_of_cell? _ _ c5
          go_wp2_with fail
          go_ret
          exact Hfin.out _ (((hE.trans hEW).trans hW).alloc _) Hno.out
        · have h20 : 0 ≤ a := by omega
          clear h2
          go_wp2_with fail
          refine (hpc.out _ (hE.trans hEW)).mono ?_
          rintro e W ⟨rfl, hW⟩
          have c5 := hW.cell (show (X.alloc (.cells #[.slice (some ⟨br, or, none⟩) n cr] 26)).cell? ⟨X.heap.size, 0, none⟩ = some (.slice (some ⟨br, or, none⟩) n cr) by go_simp)
          have c6 := hW.cell (hEW.cell ha)
          have l6 := World.block_lt_of_cell? _ _ c6
          have l5 := World.block_lt_of_cell? _ _ c5
          have hXW : X.heap.size < W.heap.size := by have := hW.size; simp at this; omega
          have hE3 := ((hE.trans hEW).trans hW).alloc (.cells #[.int .i64 (p : Int)] 3)
          have d5 := ((Ext.refl W).alloc (.cells #[.int .i64 (p : Int)] 3)).cell c5
          have d6 := show (W.alloc (.cells #[.int .i64 (p : Int)] 3)).cell? ⟨W.heap.size, 0, none⟩ = some (.int .i64 (p : Int)) by go_simp
          have hcon := contains_isForm (cap := cap) (c1 := .pointer (some ⟨W.heap.size, 0, none⟩)) (c2 := .pointer (some ⟨X.heap.size, 0, none⟩)) (p := bad M i) (vs := vs.take i) ((HS.out.ext hE3).take i) (by rw [List.length_take, HV.out]; omega) (fun k hk W2 hW2 => by
            have hki : k < i := by rw [List.length_take] at hk; omega
            have hkM : k < M.length := by omega
            obtain ⟨sk, bk, ok, ck, hrk, hck, hSk⟩ := MatR.row HS.out HV.out HR.out hkM
            have e1 : (vs.take i)[k] = .slice sk n ck := by
              rw [List.getElem_take]
              have := HS.out.cell k _ (List.getElem?_eq_getElem (by rw [HV.out]; exact hkM))
              rw [this] at hrk
              rw [Option.some.inj hrk, HRt.out _ (List.getElem_mem hkM)]
            rw [e1]
            have := isFormC_any (w := W2) (cap := ck) (p := p) (bp := W.heap.size) (br := X.heap.size) ((hSk.ext hE3).ext hW2) ((HSr.out.ext hE3).ext hW2) (HRt.out _ (List.getElem_mem hkM)) Hrl.out hn hpn2 (hW2.cell d6) (hW2.cell d5)
            have e2 : bad M i k = (decide (M[k].getD p 0 < 0) || decide (r.getD p 0 ≤ M[k].getD p 0)) := by
              unfold bad eM
              rw [Hrd.out, ← Hp1.out, getD_get hkM []]
            rw [e2]; exact this)
          rw [List.length_take, HV.out, Nat.min_eq_left (by omega)] at hcon
          have Hcon := Lib.hid hcon
          clear hcon
          cases hany : anyB (bad M i) i
          · rw [hany] at Hcon
            have Hok := Lib.hid (rowOk_yes hH1.out (by rw [HeM.out]; exact h20) hany)
            clear hany
            go_wp2_with fail
            refine Hcon.out.mono ?_
            rintro e W2 ⟨rfl, hW2⟩
            have d7 := hW2.cell d6
            go_wp2_with fail
            go_roundw
            case rel => exact ⟨i + 1, by omega, by go_num, by unfold bef; rw [if_neg (by omega), Nat.add_sub_cancel, Hrd.out, HpI.out], Lib.hid (fun j hj => by
              by_cases e : j = i
              · subst e; exact Hok.out
              · exact Hp.out j (by omega)), hE3.trans hW2⟩
            case measure => simp [intOf] <;> omega
          · rw [hany] at Hcon
            have Hno := Lib.hid (rowOk_no3 hany)
            clear hany
            go_wp2_with fail
            refine Hcon.out.mono ?_
            rintro e W2 ⟨rfl, hW2⟩
            go_wp2_with fail
            go_ret
            exact Hfin.out _ (hE3.trans hW2) Hno.out
    · have Hyes := Lib.hid (isF_yes (M := M) (fun j hj => Hp.out j (by omega)))
      go_wp2_with fail
      go_ret
      exact ⟨by rw [Hyes.out]; rfl, hE⟩
end Go.Proofs.YtkjnjmihfonilaaGreatDoor
namespace Go.Proofs.YtkjnjmihfonilaaGreatDoor
open Go.RowKit Go.Sort
theorem isH_isF {n : Nat} {ps : List Nat} {M : Mx} (h : IsH n ps M) : isF M = true := by
  have e := isH_pv h
  subst e
  have hp : ∀ i, i < M.length → (M.map pv).getD i 0 = pv (M.getD i []) := fun i hi => getD_map pv M i hi 0 []
  have hlen : ∀ i, i < M.length → (M.getD i []).length = n := fun i hi => by rw [getD_get hi]; exact h.rect _ (List.getElem_mem hi)
  have hI : ∀ i, i < M.length → pvI (M.getD i []) = (pv (M.getD i []) : Int) := fun i hi => by
    have := h.lt i hi
    rw [hp i hi] at this
    unfold pvI; rw [if_pos (by rw [hlen i hi]; exact this)]
  refine isF_yes fun i hi => rowOk_yes ?_ ?_ (anyB_no fun k hk => ?_)
  · unfold bef
    rw [hI i hi]
    split
    · omega
    · rw [hI (i - 1) (by omega)]
      have := h.inc (i - 1) i (by omega) hi
      rw [hp i hi, hp (i - 1) (by omega)] at this
      omega
  · have := h.pos i hi
    rw [hp i hi] at this; omega
  · have := h.red k i hk hi
    rw [hp i hi] at this
    unfold bad
    simp only [Bool.or_eq_false_iff, decide_eq_false_iff_not]
    omega
def isFE (M : Mx) : Bool := if checkM M = 0 then isF M else false
theorem IsForm_any {w : World} {v : Value} {M : Mx} (hM : MatR w v M) :
    Calls Tryz.prog 120 #[v] w fun e w' => e = .returned (.tuple #[.bool (isFE M), .int .i64 (checkM M)]) ∧ Ext w w' := by
  have hck := Lib.hid (tableCheck_any hM)
  obtain ⟨c, hc⟩ : ∃ c, c = checkM M := ⟨_, rfl⟩
  by_cases h0 : c = 0
  · have hc0 : checkM M = 0 := by omega
    obtain ⟨h1, h2, h3, _⟩ := checkM_ok hc0
    have hif := Lib.hid (fun W (hW : Ext w W) => isForm_any (hM.ext hW) h3 (by omega) (by omega))
    have hE : isFE M = isF M := by unfold isFE; rw [if_pos hc0]
    rw [hE, hc0]
    rw [hc0] at hck
    clear hM hc h0 h1 h2 h3 hE hc0 c
    go_enter Tryz.func120, Tryz.ntmps120
    go_wp2_with fail
    refine hck.out.mono ?_
    rintro e w1 ⟨rfl, hE1⟩
    go_wp2_with fail
    refine (hif.out _ hE1).mono ?_
    rintro e w2 ⟨rfl, hE2⟩
    go_wp2_with fail
    go_ret2
    exact ⟨rfl, hE1.trans hE2⟩
  · have hE : isFE M = false := by unfold isFE; rw [if_neg (by omega)]
    rw [hE]
    rw [← hc] at hck ⊢
    have hcb : (c == 0) = false := beq_eq_false_iff_ne.2 h0
    have hcb2 : (c != 0) = true := by simp [bne, hcb]
    clear hM hc hE
    go_enter Tryz.func120, Tryz.ntmps120
    go_wp2_with fail
    refine hck.out.mono ?_
    rintro e w1 ⟨rfl, hE1⟩
    go_wp2_with fail
    go_ret2
    exact ⟨rfl, hE1⟩
end Go.Proofs.YtkjnjmihfonilaaGreatDoor
namespace Go.Proofs.YtkjnjmihfonilaaGreatDoor
open Go.RowKit Go.Sort
set_option maxRecDepth 100000 in
theorem lat_check_ok {w : World} {v : Value} {F : Mx} {n : Nat} (hM : MatR w v F) (hF : ∀ r ∈ F, chkRow r = 0 ∧ r.length = n) (hn : n ≤ 12) (hl : F.length ≤ 12) :
    Calls Tryz.prog 115 #[.int .i64 n, v] w fun e w' => e = .returned (.int .i64 0) ∧ Ext w w' := by
  have hck := Lib.hid (CheckAll_ok hM hF (by omega))
  obtain ⟨sa, gb, go, cap, vs, rfl, hcap, hvl, hS, hr⟩ := hM
  obtain ⟨L, hL⟩ : ∃ L, L = F.length := ⟨_, rfl⟩
  rw [← hL] at hck hl hcap ⊢
  have h1 : ¬ (n : Int) < 0 := by omega
  have h2 : ¬ (n : Int) > 12 := by omega
  have h3 : ¬ (L : Int) > 12 := by omega
  clear hS hr hvl hF hL
  go_enter Tryz.func115, Tryz.ntmps115
  go_wp2_with fail
  refine hck.out.mono ?_
  rintro e w1 ⟨rfl, hE1⟩
  go_wp2_with fail
  go_ret
  exact ⟨rfl, hE1⟩
theorem chk_of_form {n : Nat} {ps : List Nat} {K : Mx} (hI : IsH n ps K) (hn : n ≤ 12) (hl : K.length ≤ 12) (hs : ∀ r ∈ K, ∀ z ∈ r, -1000000000 ≤ z ∧ z ≤ 1000000000) : checkM K = 0 ∧ ∀ r ∈ K, chkRow r = 0 ∧ r.length = n := by
  have hg : ∀ r ∈ K, r.any grt = false := fun r hr => by
    cases h : r.any grt
    · rfl
    · obtain ⟨z, hz, hg⟩ := List.any_eq_true.1 h
      have := hs r hr z hz
      unfold grt at hg
      have := of_decide_eq_true hg
      omega
  refine ⟨?_, fun r hr => ⟨?_, hI.rect r hr⟩⟩
  · unfold checkM
    rw [if_neg (by omega)]
    refine chk_all _ _ fun j hj => ?_
    have hj' := hI.rect _ (List.getElem_mem hj)
    have h0 : (K.getD 0 []).length = n := by rw [getD_get (by omega)]; exact hI.rect _ (List.getElem_mem _)
    unfold chkR
    rw [if_neg (by omega), if_neg (by omega), hg _ (List.getElem_mem hj)]; rfl
  · unfold chkRow
    have := hI.rect r hr
    rw [if_neg (by omega), hg r hr]; rfl
theorem isFE_of {n : Nat} {ps : List Nat} {K : Mx} (hI : IsH n ps K) (hc : checkM K = 0) : isFE K = true := by
  unfold isFE
  rw [if_pos hc]; exact isH_isF hI
set_option maxRecDepth 100000 in
theorem latCheck_ok {w : World} {v : Value} {K : Mx} {n : Nat} {ps : List Nat} (hM : MatR w v K) (hI : IsH n ps K) (hn : n ≤ 12) (hl : K.length ≤ 12) (hs : ∀ r ∈ K, ∀ z ∈ r, -1000000000 ≤ z ∧ z ≤ 1000000000) :
    Calls Tryz.prog 74 #[latv n v] w fun e w' => e = .returned (.int .i64 0) ∧ Ext w w' := by
  obtain ⟨hc, hrow⟩ := chk_of_form hI hn hl hs
  have hck := Lib.hid (fun W (hW : Ext w W) => lat_check_ok (hM.ext hW) hrow hn hl)
  have hif := fun W (hW : Ext w W) => IsForm_any (hM.ext hW)
  rw [isFE_of hI hc, hc] at hif
  have Hif := Lib.hid hif
  have hX : Ext w (w.alloc (.cells #[.int .i64 n, v] 94)) := (Ext.refl w).alloc _
  have x1 : (w.alloc (.cells #[.int .i64 n, v] 94)).cell? ⟨w.heap.size, 1, none⟩ = some v := by go_simp
  obtain ⟨sa, gb, go, cap, vs, rfl, _⟩ := hM
  clear hrow hc hif hs hI
  go_enter Tryz.func74, Tryz.ntmps74
  go_wp2_with fail
  refine (hck.out _ hX).mono ?_
  rintro e w1 ⟨rfl, hE1⟩
  have x2 := hE1.cell x1
  have hX1 := hX.trans hE1
  clear x1 hX hE1
  go_wp2_with fail
  refine (Hif.out _ hX1).mono ?_
  rintro e w2 ⟨rfl, hE2⟩
  have hX2 := hX1.trans hE2
  go_wp2_with fail
  go_ret
  exact ⟨rfl, hX2⟩
end Go.Proofs.YtkjnjmihfonilaaGreatDoor
namespace Go.Proofs.YtkjnjmihfonilaaGreatDoor
open Go Go.Sort
section
variable {P : Program} {ops : Array Oper} {md : Region.Mode} {Q : Exit → Act → World → Prop} {S : World → Prop}
def wpAnyLH (P : Program) (md : Region.Mode) (ops : Array Oper) (Q : Exit → Act → World → Prop) (S : World → Prop) (n : Nat) (L : Array Bool → Act → World → Prop) : Nat → Array Bool → Act → World → Prop
  | 0, listed, a, w => L listed a w
  | f + 1, listed, a, w => Region.ready md ops listed ≠ [] ∧ ∀ i ∈ Region.ready md ops listed, i < n ∧ wpOp P ops Q i (fun a' w' => S w' ∧ wpAnyLH P md ops Q S n L f (listed.setIfInBounds i true) a' w') a w
theorem wpAny_of_headH {n g : Nat} {L : Array Bool → Act → World → Prop} (hL : ∀ listed a w, L listed a w → wpAny P md ops Q g listed a w) :
    ∀ (f : Nat) (listed : Array Bool) (a : Act) (w : World), wpAnyLH P md ops Q S n L f listed a w → wpAny P md ops Q (f + g) listed a w
  | 0, listed, a, w, h => by rw [Nat.zero_add]; exact hL _ _ _ h
  | f + 1, listed, a, w, h => by
    rw [show f + 1 + g = (f + g) + 1 by omega]
    exact ⟨fun h0 => absurd h0 h.1, fun i hi => wpOp_mono (fun a' w' h' => wpAny_of_headH hL f _ a' w' h'.2) (h.2 i hi).2⟩
theorem wpAnyLH_first {n i : Nat} {oi : Oper} {v : Value} {L : Array Bool → Act → World → Prop} (hi : ops[i]? = some oi) (hsel : ∀ (j : Nat) (o : Oper) cs b, ops[j]? = some o → o.op ≠ .select cs b)
    (hQ : ∀ c a w, Q (.panic c) (a.put oi.dst v) w → Q (.panic c) a w)
    (hs : Region.sinkB md ops n = true) (hc : Region.chainB md ops n = true) (hn : n < ops.size) (hin : i < n)
    (hdone : ∀ listed a w, L listed a w → ∀ j ∈ Region.ready md ops listed, n ≤ j) :
    ∀ (f : Nat) (listed : Array Bool) (a : Act) (w : World), HeadInv md ops n listed →
      (∀ j oj, ops[j]? = some oj → j ≠ i → listed.getD j true = false → (∀ e ∈ oj.after, Region.binds md e = true → e.on ≠ i) → oi.apart ops oj = true) →
      i ∈ Region.ready md ops listed → YieldsIf P ops S oi v a → S w →
      wpAnyLH P md ops Q S n L f (listed.setIfInBounds i true) (a.put oi.dst v) w → wpAnyLH P md ops Q S n L (f + 1) listed a w := by
  intro f
  induction f with
  | zero =>
    intro listed a w inv _ hr hy hS H
    have hun := (mem_ready.1 hr).1
    refine ⟨fun h => (by rw [h] at hr; cases hr), fun j hj => ?_⟩
    have hjn : j < n := by
      rcases Nat.lt_or_ge j n with h | h
      · exact h
      · exact absurd hj (tail_waits hs hc hn inv _ i rfl hin hun j h)
    refine ⟨hjn, ?_⟩
    by_cases hji : j = i
    · subst hji; exact hy.wpOp hi hS ⟨hS, H⟩
    · have := hdone _ _ _ H j (ready_mono hj hji)
      omega
  | succ f ih =>
    intro listed a w inv hfree hr hy hS H
    have hun := (mem_ready.1 hr).1
    refine ⟨fun h => (by rw [h] at hr; cases hr), fun j hj => ?_⟩
    have hjn : j < n := by
      rcases Nat.lt_or_ge j n with h | h
      · exact h
      · exact absurd hj (tail_waits hs hc hn inv _ i rfl hin hun j h)
    refine ⟨hjn, ?_⟩
    by_cases hji : j = i
    · subst hji; exact hy.wpOp hi hS ⟨hS, H⟩
    · have h1 := (H.2 j (ready_mono hj hji)).2
      obtain ⟨hjun, oj, hoj, hall⟩ := mem_ready.1 hj
      have hnot : ∀ e ∈ oj.after, Region.binds md e = true → e.on ≠ i := fun e he hb heq => by
        have h1 := hall e he hb
        rw [heq, getD_both hun] at h1
        cases h1
      have h2 := wpOp_putIf hoj (hfree j oj hoj hji hjun hnot) (fun cs b => hsel i oi cs b hi) (fun cs b => hsel j oj cs b hoj) hQ hy h1
      have hfree' : ∀ k ok, ops[k]? = some ok → k ≠ i → (listed.setIfInBounds j true).getD k true = false →
          (∀ e ∈ ok.after, Region.binds md e = true → e.on ≠ i) → oi.apart ops ok = true := fun k ok hk hki hun hno => by
        refine hfree k ok hk hki ?_ hno
        by_cases hjk : j = k
        · subst hjk; exact hjun
        · rw [getD_set_ne true hjk] at hun; exact hun
      refine wpOp_mono (fun a' w' h3 => ⟨h3.2.1, ih (listed.setIfInBounds j true) a' w' (inv.set hj hjn) hfree' (ready_mono hr (Ne.symm hji)) h3.1 h3.2.1 ?_⟩) h2
      rw [Array.setIfInBounds_comm _ _ hji]
      exact h3.2.2
def LTail (P : Program) (md : Region.Mode) (ops : Array Oper) (Q : Exit → Act → World → Prop) (n : Nat) (rest : List Oper) (listed : Array Bool) (a : Act) (w : World) : Prop := Region.seqB md ops (ops.size - n) n listed = true ∧ wpList P ops Q rest a w
theorem wpAnyLH_take {n i f : Nat} {oi : Oper} {v : Value} {rest : List Oper} {listed : Array Bool} {a : Act} {w : World} (hi : ops[i]? = some oi)
    (hB : (Region.noSelect ops && decide (n < ops.size) && Region.sinkB md ops n && Region.chainB md ops n && decide (i < n) && Region.free md ops listed i && (Region.ready md ops listed).contains i) = true)
    (hQ : ∀ c a w, Q (.panic c) (a.put oi.dst v) w → Q (.panic c) a w) (hy : YieldsIf P ops S oi v a) (hS : S w) (inv : HeadInv md ops n listed)
    (h : HeadInv md ops n (listed.setIfInBounds i true) → wpAnyLH P md ops Q S n (LTail P md ops Q n rest) f (listed.setIfInBounds i true) (a.put oi.dst v) w) : wpAnyLH P md ops Q S n (LTail P md ops Q n rest) (f + 1) listed a w := by
  simp only [Bool.and_eq_true, decide_eq_true_eq] at hB
  obtain ⟨⟨⟨⟨⟨⟨hsel, hn⟩, hs⟩, hc⟩, hin⟩, hf⟩, hr⟩ := hB
  have hr' : i ∈ Region.ready md ops listed := by simpa using hr
  exact wpAnyLH_first hi (Region.noSelect_spec hsel) hQ hs hc hn hin (fun _ _ _ hL => seqB_ready hL.1) f listed a w inv (Region.free_spec hi hf) hr' hy hS (h (inv.set hr' hin))
theorem wpAnyLH_one {n i f : Nat} {o : Oper} {L : Array Bool → Act → World → Prop} {listed : Array Bool} {a : Act} {w : World} (ho : ops[i]? = some o) (hr : (Region.ready md ops listed == [i] && decide (i < n)) = true)
    (h : ∀ K' : Act → World → Prop, (∀ a w, S w → wpAnyLH P md ops Q S n L f (listed.setIfInBounds i true) a w → K' a w) → if Region.wanted o (yielded ops a.tmps) = true then Oper.wp P o a w K' Q else K' (a.put o.dst undef) w) : wpAnyLH P md ops Q S n L (f + 1) listed a w := by
  simp only [Bool.and_eq_true, decide_eq_true_eq, beq_iff_eq] at hr
  refine ⟨fun h0 => (by rw [hr.1] at h0; cases h0), fun j hj => ?_⟩
  rw [hr.1] at hj
  obtain rfl : j = i := by simpa using hj
  exact ⟨hr.2, wpOp_step ho (fun K' hK => h K' (fun a w hS hW => hK a w ⟨hS, hW⟩))⟩
theorem wpAnyLH_end {n : Nat} {rest : List Oper} {listed : Array Bool} {a : Act} {w : World} (hB : Region.seqB md ops (ops.size - n) n listed = true) (h : wpList P ops Q rest a w) : wpAnyLH P md ops Q S n (LTail P md ops Q n rest) 0 listed a w := ⟨hB, h⟩
theorem wp_region_held_tail {id : Nat} {a : Act} {w : World} {l : List Oper} (n : Nat) (hm : P.follows .mixedOrders = true) (hn : n < l.length)
    (h : HeadInv .any l.toArray n (Array.replicate l.toArray.size false) → wpAnyLH P .any l.toArray Q S n (LTail P .any l.toArray Q n (l.drop n)) n (Array.replicate l.toArray.size false) a w.drew) : (Code.region id l.toArray true).wp P Q a w := by
  have hdl : (l.drop n).length = l.toArray.size - n := by simp
  have inv0 : HeadInv .any l.toArray n (Array.replicate l.toArray.size false) :=
    ⟨by simp, fun j oj _ hl => (by rw [getD_replicate_false] at hl; cases hl), fun t _ ht => getD_in (by simpa using ht) (getD_replicate_false _ _)⟩
  refine wp_region_any hm ?_
  have := wpAny_of_headH (Q := Q) (g := l.toArray.size - n) (fun listed a' w' hL => by
    have := wpAny_of_seq (md := .any) (Q' := Q) (l.drop n) n listed a' w' (fun j => by simp [List.getElem?_drop]) (by rw [hdl]; exact hL.1) hL.2
    rwa [hdl] at this) _ _ _ _ (h inv0)
  rw [show n + (l.toArray.size - n) = l.toArray.size by simp; omega] at this
  exact this
end
end Go.Proofs.YtkjnjmihfonilaaGreatDoor
namespace Go.Proofs.YtkjnjmihfonilaaGreatDoor
open Go.RowKit Go.Sort
section
variable {P : Program} {ops : Array Oper} {md : Region.Mode} {Q : Exit → Act → World → Prop} {S : World → Prop}
theorem wpAnyLH_oneI {n i f : Nat} {o : Oper} {L : Array Bool → Act → World → Prop} {listed : Array Bool} {a : Act} {w : World} (ho : ops[i]? = some o) (hr : (Region.ready md ops listed == [i] && decide (i < n)) = true) (inv : HeadInv md ops n listed)
    (h : HeadInv md ops n (listed.setIfInBounds i true) → ∀ K' : Act → World → Prop, (∀ a w, S w → wpAnyLH P md ops Q S n L f (listed.setIfInBounds i true) a w → K' a w) → if Region.wanted o (yielded ops a.tmps) = true then Oper.wp P o a w K' Q else K' (a.put o.dst undef) w) : wpAnyLH P md ops Q S n L (f + 1) listed a w := by
  have h2 := hr
  simp only [Bool.and_eq_true, decide_eq_true_eq, beq_iff_eq] at h2
  exact wpAnyLH_one ho hr (h (inv.set (by rw [h2.1]; simp) h2.2))
end
theorem isH_len {n : Nat} {ps : List Nat} {F : Mx} (h : IsH n ps F) : F.length ≤ n := by
  have hge : ∀ i, i < F.length → i ≤ ps.getD i 0 := by
    intro i
    induction i with
    | zero => intro _; omega
    | succ i ih =>
      intro hi
      have := ih (by omega)
      have := h.inc i (i + 1) (by omega) hi
      omega
  rcases Nat.eq_zero_or_pos F.length with h0 | h0
  · omega
  · have h1 := hge (F.length - 1) (by omega)
    have h2 := h.lt (F.length - 1) (by omega)
    omega
def SmK (K : Mx) : Prop := ∀ r ∈ K, ∀ z ∈ r, -1000000000 ≤ z ∧ z ≤ 1000000000
theorem SmK.small {K : Mx} (h : SmK K) : ∀ r ∈ K, smallB r = true := fun r hr => small_yes (fun t ht => by
  have := h r hr _ (List.getElem_mem ht)
  unfold grt
  exact decide_eq_false (by omega))
theorem SmK.nd {K : Mx} (h : SmK K) : ∀ r ∈ K, ∀ z ∈ r, nd z ≤ LIM := fun r hr z hz => by
  have := h r hr z hz
  have h2 : z.natAbs < 2 ^ 30 := by
    have e : (2 : Nat) ^ 30 = 1073741824 := by decide
    omega
  have := nd_lt2 h2
  have e : LIM = 1000000000000 := rfl
  omega
def LatPost (w : World) (n : Nat) (P : Mx → Prop) (e : Ending) (w' : World) : Prop := ∃ v' K, e = .returned (.tuple #[latv n v', .int .i64 0]) ∧ MatO w.heap.size w' v' K ∧ P K ∧ Ext w w'
theorem MatO.slice {B : Nat} {w : World} {v : Value} {F : Mx} (h : MatO B w v F) : ∃ a l k, v = .slice a l k := by
  obtain ⟨vs0, _, h2, _⟩ := h
  rcases h2.2 with ⟨rfl, _⟩ | ⟨g, cap, cur, rfl, _⟩
  · exact ⟨_, _, _, rfl⟩
  · exact ⟨_, _, _, rfl⟩
set_option maxRecDepth 100000 in
set_option maxHeartbeats 4000000 in
theorem annih_ok {w : World} {v : Value} {F : Mx} {n : Nat} {ps : List Nat} (hM : MatR w v F) (hI : IsH n ps F) (h0 : 0 < n) (hn : n ≤ 4) (hs : SmK F) (hk : ∀ K, KerL n (latM F) K → SmK K) (hL : Laid w) :
    Calls Tryz.prog 73 #[latv n v] w (LatPost w n (KerL n (latM F))) := by
  have hlen := isH_len hI
  have hck := Lib.hid (fun W (hW : Ext w W) => latCheck_ok (hM.ext hW) hI (by omega) (by omega) hs)
  have hlo := Lib.hid (fun W (hW : Ext w W) => longsOf_any (hM.ext hW) hI.rect h0 (by omega) (by omega) (fun r hr z hz => by have := hs r hr z hz; unfold I64; omega) (hL.ext hW))
  have hk1 := Lib.hid (fun W v1 (hW : Ext w W) (h : LgsR W v1 F) => lkernel_any h hI.rect h0 hn (by omega) hs (hL.ext hW))
  have hsh := Lib.hid (fun W v1 K (hW : Ext w W) (h : LgsR W v1 K) (hK : KerL n (latM F) K) => by
    obtain ⟨qs, hq⟩ := hK.1
    have := isH_len hq
    exact lsshort_ok (n := n) h hq.rect (by omega) (by omega) (hk K hK).small (hk K hK).nd (hL.ext hW))
  obtain ⟨sa, gb, go, cap, vs, rfl, _⟩ := hM
  obtain ⟨L, hLe⟩ : ∃ L, L = F.length := ⟨_, rfl⟩
  rw [← hLe] at hck hlo ⊢
  have hX : Ext w ((w.alloc (.cells #[.int .i64 n, .slice sa L cap] 94)).alloc (.cells #[.int .i64 0, .slice none 0 0] 94)) := ((Ext.refl w).alloc _).alloc _
  have x0 : ((w.alloc (.cells #[.int .i64 n, .slice sa L cap] 94)).alloc (.cells #[.int .i64 0, .slice none 0 0] 94)).cell? ⟨w.heap.size, 0, none⟩ = some (.int .i64 n) := by go_simp
  have x1 : ((w.alloc (.cells #[.int .i64 n, .slice sa L cap] 94)).alloc (.cells #[.int .i64 0, .slice none 0 0] 94)).cell? ⟨w.heap.size, 1, none⟩ = some (.slice sa L cap) := by go_simp
  have HO := Lib.hid (lat_alloc2 w (.cells #[.int .i64 n, .slice sa L cap] 94) 94 (.int .i64 0) (.slice none 0 0))
  obtain ⟨bl, hbl⟩ : ∃ bl, bl = w.heap.size := ⟨_, rfl⟩
  obtain ⟨b2, hb2⟩ : ∃ b2, b2 = w.heap.size + 1 := ⟨_, rfl⟩
  rw [← hb2] at HO
  rw [← hbl] at x0 x1
  have hbs2 : w.heap.size ≤ b2 := by omega
  clear hI hs hL hlen hLe
  go_enter Tryz.func73, Tryz.ntmps73
  go_wp2_with fail
  rw [← hb2, ← hbl]
  clear hb2 hbl
  refine (hck.out _ hX).mono ?_
  rintro e X ⟨rfl, hE1⟩
  replace x0 := hE1.cell x0
  replace x1 := hE1.cell x1
  replace HO := Lib.hid (HO.out.ext hE1)
  replace hX := hX.trans hE1
  clear hE1 hck
  go_wp2_with fail
  have dd : Ext X X.drew := (Ext.refl X).drew
  refine wp_region_held_tail (S := fun W => Ext X W) 11 (by kernel_rfl) (by simp) ?_
  intro inv
  refine wpAnyLH_take (i := 0) (v := .pointer (some ⟨bl, 1, none⟩)) rfl (by kernel_rfl) (fun _ _ _ h => h) (.inl ⟨by rfl, fun W hW => by go_simp⟩) dd inv ?_
  intro inv
  go_simp
  refine wpAnyLH_take (i := 1) (v := .slice sa L cap) rfl (by kernel_rfl) (fun _ _ _ h => h) (.inl ⟨by rfl, fun W hW => by have z0 := hW.cell x1; go_simp⟩) dd inv ?_
  intro inv
  go_simp
  refine wpAnyLH_take (i := 3) (v := .pointer (some ⟨bl, 0, none⟩)) rfl (by kernel_rfl) (fun _ _ _ h => h) (.inl ⟨by rfl, fun W hW => by go_simp⟩) dd inv ?_
  intro inv
  go_simp
  refine wpAnyLH_take (i := 4) (v := .int .i64 n) rfl (by kernel_rfl) (fun _ _ _ h => h) (.inl ⟨by rfl, fun W hW => by have z0 := hW.cell x0; go_simp⟩) dd inv ?_
  intro inv
  go_simp
  refine wpAnyLH_take (i := 6) (v := .pointer (some ⟨bl, 0, none⟩)) rfl (by kernel_rfl) (fun _ _ _ h => h) (.inl ⟨by rfl, fun W hW => by go_simp⟩) dd inv ?_
  intro inv
  go_simp
  refine wpAnyLH_take (i := 7) (v := .int .i64 n) rfl (by kernel_rfl) (fun _ _ _ h => h) (.inl ⟨by rfl, fun W hW => by have z0 := hW.cell x0; go_simp⟩) dd inv ?_
  intro inv
  go_simp
  refine wpAnyLH_oneI (i := 2) rfl (by kernel_rfl) inv (fun inv K0 hK0 => ?_)
  go_simp
  refine (hlo.out _ (hX.trans dd)).mono ?_
  rintro e W1 ⟨v1, ad1, rfl, hg1, hF1⟩
  have e1 := dd.trans hF1
  have HG1 := Lib.hid hg1.gridR
  refine hK0 _ _ e1 ?_
  clear hK0 hg1
  refine wpAnyLH_oneI (i := 5) rfl (by kernel_rfl) inv (fun inv K1 hK1 => ?_)
  go_simp
  refine (hk1.out _ _ (hX.trans e1) HG1.out).mono ?_
  rintro e W2 ⟨v2, KK, rfl, hg2, hKer, hF2⟩
  have e2 := e1.trans hF2
  have HG2 := Lib.hid hg2
  have HKer := Lib.hid hKer
  refine hK1 _ _ e2 ?_
  clear hK1 hg2 hKer
  refine wpAnyLH_oneI (i := 8) rfl (by kernel_rfl) inv (fun inv K4 hK4 => ?_)
  go_simp
  refine (hsh.out _ _ _ (hX.trans e2) HG2.out HKer.out).mono ?_
  rintro e W5 ⟨v5, rfl, hm5, hF5⟩
  have e5 := e2.trans hF5
  obtain ⟨xa, xl, xk, rfl⟩ := hm5.slice
  have Hm5 := Lib.hid (hm5.mono (hX.trans e2).size)
  refine hK4 _ _ e5 ?_
  clear hK4 hm5
  refine wpAnyLH_take (i := 9) (v := latv n (.slice xa xl xk)) rfl (by kernel_rfl) (fun _ _ _ h => h) (.inl ⟨by rfl, fun W hW => by go_simp⟩) e5 inv ?_
  intro inv
  go_simp
  refine wpAnyLH_take (i := 10) (v := .int .i64 0) rfl (by kernel_rfl) (fun _ _ _ h => h) (.inl ⟨by rfl, fun W hW => by go_simp⟩) e5 inv ?_
  intro inv
  go_simp
  refine wpAnyLH_end (by kernel_rfl) ?_
  replace HO := Lib.hid (HO.out.ext e5)
  replace hX := hX.trans e5
  obtain ⟨q0, q1, f0, f1, r0, r1, hF, hG⟩ := lat_end hX hbs2 HO.out (.int .i64 n) (.slice xa xl xk)
  have HMf := Lib.hid (mat_kept2 Hm5.out HO.out (by decide) (by decide) hG)
  have Hres := Lib.hid (show LatPost w n (KerL n (latM F)) (.returned (.tuple #[latv n (.slice xa xl xk), .int .i64 0])) _ from ⟨_, KK, rfl, HMf.out, HKer.out, hF.out⟩)
  clear hG HMf
  go_wp2_with fail
  refine bodyPost_ret (v := .tuple #[latv n (.slice xa xl xk), .int .i64 0]) (by simp [results, Tryz.results73, go_sem, r0, r1]) rfl Hres.out
set_option maxRecDepth 100000 in
set_option maxHeartbeats 4000000 in
theorem satur_ok {w : World} {v : Value} {F : Mx} {n : Nat} {ps : List Nat} (hM : MatR w v F) (hI : IsH n ps F) (h0 : 0 < n) (hn : n ≤ 4) (hs : SmK F) (hk : ∀ K, KerL n (latM F) K → SmK K) (hk2s : ∀ K S, KerL n (latM F) K → KerL n (latM K) S → SmK S) (hL : Laid w) :
    Calls Tryz.prog 72 #[latv n v] w (LatPost w n (fun S => ∃ K, KerL n (latM F) K ∧ KerL n (latM K) S)) := by
  have hlen := isH_len hI
  have hck := Lib.hid (fun W (hW : Ext w W) => latCheck_ok (hM.ext hW) hI (by omega) (by omega) hs)
  have hlo := Lib.hid (fun W (hW : Ext w W) => longsOf_any (hM.ext hW) hI.rect h0 (by omega) (by omega) (fun r hr z hz => by have := hs r hr z hz; unfold I64; omega) (hL.ext hW))
  have hk1 := Lib.hid (fun W v1 (hW : Ext w W) (h : LgsR W v1 F) => lkernel_any h hI.rect h0 hn (by omega) hs (hL.ext hW))
  have hk2 := Lib.hid (fun W v1 K (hW : Ext w W) (h : LgsR W v1 K) (hK : KerL n (latM F) K) => by
    obtain ⟨qs, hq⟩ := hK.1
    have := isH_len hq
    exact lkernel_any h hq.rect h0 hn (by omega) (hk K hK) (hL.ext hW))
  have hsh := Lib.hid (fun W v1 K S (hW : Ext w W) (h : LgsR W v1 S) (hK : KerL n (latM F) K) (hS : KerL n (latM K) S) => by
    obtain ⟨qs, hq⟩ := hS.1
    have := isH_len hq
    exact lsshort_ok (n := n) h hq.rect (by omega) (by omega) (hk2s K S hK hS).small (hk2s K S hK hS).nd (hL.ext hW))
  obtain ⟨sa, gb, go, cap, vs, rfl, _⟩ := hM
  obtain ⟨L, hLe⟩ : ∃ L, L = F.length := ⟨_, rfl⟩
  rw [← hLe] at hck hlo ⊢
  have hX : Ext w ((w.alloc (.cells #[.int .i64 n, .slice sa L cap] 94)).alloc (.cells #[.int .i64 0, .slice none 0 0] 94)) := ((Ext.refl w).alloc _).alloc _
  have x0 : ((w.alloc (.cells #[.int .i64 n, .slice sa L cap] 94)).alloc (.cells #[.int .i64 0, .slice none 0 0] 94)).cell? ⟨w.heap.size, 0, none⟩ = some (.int .i64 n) := by go_simp
  have x1 : ((w.alloc (.cells #[.int .i64 n, .slice sa L cap] 94)).alloc (.cells #[.int .i64 0, .slice none 0 0] 94)).cell? ⟨w.heap.size, 1, none⟩ = some (.slice sa L cap) := by go_simp
  have HO := Lib.hid (lat_alloc2 w (.cells #[.int .i64 n, .slice sa L cap] 94) 94 (.int .i64 0) (.slice none 0 0))
  obtain ⟨bl, hbl⟩ : ∃ bl, bl = w.heap.size := ⟨_, rfl⟩
  obtain ⟨b2, hb2⟩ : ∃ b2, b2 = w.heap.size + 1 := ⟨_, rfl⟩
  rw [← hb2] at HO
  rw [← hbl] at x0 x1
  have hbs2 : w.heap.size ≤ b2 := by omega
  clear hI hs hL hlen hLe
  go_enter Tryz.func72, Tryz.ntmps72
  go_wp2_with fail
  rw [← hb2, ← hbl]
  clear hb2 hbl
  refine (hck.out _ hX).mono ?_
  rintro e X ⟨rfl, hE1⟩
  replace x0 := hE1.cell x0
  replace x1 := hE1.cell x1
  replace HO := Lib.hid (HO.out.ext hE1)
  replace hX := hX.trans hE1
  clear hE1 hck
  go_wp2_with fail
  have dd : Ext X X.drew := (Ext.refl X).drew
  refine wp_region_held_tail (S := fun W => Ext X W) 14 (by kernel_rfl) (by simp) ?_
  intro inv
  refine wpAnyLH_take (i := 0) (v := .pointer (some ⟨bl, 1, none⟩)) rfl (by kernel_rfl) (fun _ _ _ h => h) (.inl ⟨by rfl, fun W hW => by go_simp⟩) dd inv ?_
  intro inv
  go_simp
  refine wpAnyLH_take (i := 1) (v := .slice sa L cap) rfl (by kernel_rfl) (fun _ _ _ h => h) (.inl ⟨by rfl, fun W hW => by have z0 := hW.cell x1; go_simp⟩) dd inv ?_
  intro inv
  go_simp
  refine wpAnyLH_take (i := 3) (v := .pointer (some ⟨bl, 0, none⟩)) rfl (by kernel_rfl) (fun _ _ _ h => h) (.inl ⟨by rfl, fun W hW => by go_simp⟩) dd inv ?_
  intro inv
  go_simp
  refine wpAnyLH_take (i := 4) (v := .int .i64 n) rfl (by kernel_rfl) (fun _ _ _ h => h) (.inl ⟨by rfl, fun W hW => by have z0 := hW.cell x0; go_simp⟩) dd inv ?_
  intro inv
  go_simp
  refine wpAnyLH_take (i := 6) (v := .pointer (some ⟨bl, 0, none⟩)) rfl (by kernel_rfl) (fun _ _ _ h => h) (.inl ⟨by rfl, fun W hW => by go_simp⟩) dd inv ?_
  intro inv
  go_simp
  refine wpAnyLH_take (i := 7) (v := .int .i64 n) rfl (by kernel_rfl) (fun _ _ _ h => h) (.inl ⟨by rfl, fun W hW => by have z0 := hW.cell x0; go_simp⟩) dd inv ?_
  intro inv
  go_simp
  refine wpAnyLH_take (i := 9) (v := .pointer (some ⟨bl, 0, none⟩)) rfl (by kernel_rfl) (fun _ _ _ h => h) (.inl ⟨by rfl, fun W hW => by go_simp⟩) dd inv ?_
  intro inv
  go_simp
  refine wpAnyLH_take (i := 10) (v := .int .i64 n) rfl (by kernel_rfl) (fun _ _ _ h => h) (.inl ⟨by rfl, fun W hW => by have z0 := hW.cell x0; go_simp⟩) dd inv ?_
  intro inv
  go_simp
  refine wpAnyLH_oneI (i := 2) rfl (by kernel_rfl) inv (fun inv K0 hK0 => ?_)
  go_simp
  refine (hlo.out _ (hX.trans dd)).mono ?_
  rintro e W1 ⟨v1, ad1, rfl, hg1, hF1⟩
  have e1 := dd.trans hF1
  have HG1 := Lib.hid hg1.gridR
  refine hK0 _ _ e1 ?_
  clear hK0 hg1
  refine wpAnyLH_oneI (i := 5) rfl (by kernel_rfl) inv (fun inv K1 hK1 => ?_)
  go_simp
  refine (hk1.out _ _ (hX.trans e1) HG1.out).mono ?_
  rintro e W2 ⟨v2, KK, rfl, hg2, hKer, hF2⟩
  have e2 := e1.trans hF2
  have HG2 := Lib.hid hg2
  have HKer := Lib.hid hKer
  refine hK1 _ _ e2 ?_
  clear hK1 hg2 hKer
  refine wpAnyLH_oneI (i := 8) rfl (by kernel_rfl) inv (fun inv K2 hK2 => ?_)
  go_simp
  refine (hk2.out _ _ _ (hX.trans e2) HG2.out HKer.out).mono ?_
  rintro e W3 ⟨v3, SS, rfl, hg3, hKer2, hF3⟩
  have e3 := e2.trans hF3
  have HG3 := Lib.hid hg3
  have HKer2 := Lib.hid hKer2
  refine hK2 _ _ e3 ?_
  clear hK2 hg3 hKer2
  refine wpAnyLH_oneI (i := 11) rfl (by kernel_rfl) inv (fun inv K4 hK4 => ?_)
  go_simp
  refine (hsh.out _ _ _ _ (hX.trans e3) HG3.out HKer.out HKer2.out).mono ?_
  rintro e W5 ⟨v5, rfl, hm5, hF5⟩
  have e5 := e3.trans hF5
  obtain ⟨xa, xl, xk, rfl⟩ := hm5.slice
  have Hm5 := Lib.hid (hm5.mono (hX.trans e3).size)
  refine hK4 _ _ e5 ?_
  clear hK4 hm5
  refine wpAnyLH_take (i := 12) (v := latv n (.slice xa xl xk)) rfl (by kernel_rfl) (fun _ _ _ h => h) (.inl ⟨by rfl, fun W hW => by go_simp⟩) e5 inv ?_
  intro inv
  go_simp
  refine wpAnyLH_take (i := 13) (v := .int .i64 0) rfl (by kernel_rfl) (fun _ _ _ h => h) (.inl ⟨by rfl, fun W hW => by go_simp⟩) e5 inv ?_
  intro inv
  go_simp
  refine wpAnyLH_end (by kernel_rfl) ?_
  replace HO := Lib.hid (HO.out.ext e5)
  replace hX := hX.trans e5
  obtain ⟨q0, q1, f0, f1, r0, r1, hF, hG⟩ := lat_end hX hbs2 HO.out (.int .i64 n) (.slice xa xl xk)
  have HMf := Lib.hid (mat_kept2 Hm5.out HO.out (by decide) (by decide) hG)
  have Hres := Lib.hid (show LatPost w n (fun S => ∃ K, KerL n (latM F) K ∧ KerL n (latM K) S) (.returned (.tuple #[latv n (.slice xa xl xk), .int .i64 0])) _ from ⟨_, SS, rfl, HMf.out, ⟨KK, HKer.out, HKer2.out⟩, hF.out⟩)
  clear hG HMf
  go_wp2_with fail
  refine bodyPost_ret (v := .tuple #[latv n (.slice xa xl xk), .int .i64 0]) (by simp [results, Tryz.results72, go_sem, r0, r1]) rfl Hres.out
end Go.Proofs.YtkjnjmihfonilaaGreatDoor
