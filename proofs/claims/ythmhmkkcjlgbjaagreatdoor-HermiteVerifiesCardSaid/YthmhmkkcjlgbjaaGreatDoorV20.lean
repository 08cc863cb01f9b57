/- Part 20 of the proof of the claim: contracts of the functions that it reaches, and plain laws; no condition. -/
import Derived.Test.YthmhmkkcjlgbjaaGreatDoorV19
/- hermite: isForm, IsForm -/
namespace Go.Proofs.YthmhmkkcjlgbjaaGreatDoor
open Go.RowKit Go.Sort
def bad (M : Mx) (i k : Nat) : Bool := decide (eM M k (pv (M.getD i [])) < 0) || decide (eM M i (pv (M.getD i [])) ≤ eM M k (pv (M.getD i [])))
def bef (M : Mx) (i : Nat) : Int := if i = 0 then -1 else pvI (M.getD (i - 1) [])
def rowOk (M : Mx) (i : Nat) : Bool := decide (bef M i < pvI (M.getD i [])) && decide (0 ≤ eM M i (pv (M.getD i []))) && !(anyB (bad M i) i)
/-- In normal form. -/
def isF (M : Mx) : Bool := !(anyB (fun i => !rowOk M i) M.length)
theorem isF_yes {M : Mx} (h : ∀ i, i < M.length → rowOk M i = true) : isF M = true := by
  unfold isF
  rw [anyB_no (fun i hi => by rw [h i hi]; rfl)]; rfl
theorem isF_no {M : Mx} {i : Nat} (hi : i < M.length) (h : rowOk M i = false) : isF M = false := by
  unfold isF
  rw [anyB_iff.2 ⟨i, hi, by rw [h]; rfl⟩]; rfl
theorem isF_at {M : Mx} (h : isF M = true) {i : Nat} (hi : i < M.length) : rowOk M i = true := by
  unfold isF at h
  have := anyB_false (by simpa using h) i hi
  simpa using this
theorem bef_ge (M : Mx) (i : Nat) : -1 ≤ bef M i := by
  unfold bef pvI
  split
  · omega
  · split <;> omega
theorem rowOk_no1 {M : Mx} {i : Nat} (h : pvI (M.getD i []) ≤ bef M i) : rowOk M i = false := by
  unfold rowOk; rw [decide_eq_false (by omega)]; rfl
theorem rowOk_no2 {M : Mx} {i : Nat} (h : eM M i (pv (M.getD i [])) < 0) : rowOk M i = false := by
  unfold rowOk; rw [decide_eq_false (p := 0 ≤ _) (by omega), Bool.and_false]; rfl
theorem rowOk_no3 {M : Mx} {i : Nat} (h : anyB (bad M i) i = true) : rowOk M i = false := by
  unfold rowOk; rw [h]; simp
theorem rowOk_yes {M : Mx} {i : Nat} (h1 : bef M i < pvI (M.getD i [])) (h2 : 0 ≤ eM M i (pv (M.getD i []))) (h3 : anyB (bad M i) i = false) : rowOk M i = true := by
  unfold rowOk; rw [decide_eq_true h1, decide_eq_true h2, h3]; rfl
set_option maxRecDepth 100000 in
set_option maxHeartbeats 1000000 in
theorem isForm_any {w : World} {v : Value} {M : Mx} {n : Nat} (hM : MatR w v M) (hR : Rect n M) (hl : M.length ≤ 1000000) (hn : n ≤ 1000000) :
    Calls Tryz.prog 57 #[v] w fun e w' => e = .returned (.bool (isF M)) ∧ Ext w w' := by
  obtain ⟨sa, gb, go, cap, vs, rfl, hcap, hvl, hS, hr⟩ := hM
  have HS := Lib.hid hS
  have HV := Lib.hid hvl
  have HR := Lib.hid hr
  have HRt := Lib.hid hR
  clear hS hvl hr hR
  go_enter Tryz.func57, Tryz.ntmps57
  go_wp2_with fail
  go_loopw [3, 9] (fun be idx wr => ∃ i : Nat, i ≤ M.length ∧ idx = .int .i64 i ∧ be = .int .i64 (bef M i) ∧ Hid (∀ j, j < i → rowOk M j = true) ∧ Ext w wr) (fun _ idx _ => M.length - (intOf idx).toNat)
  case atStart => exact ⟨0, by omega, by go_num, by unfold bef; rw [if_pos rfl], Lib.hid (fun j h => by omega), Ext.refl _⟩
  case round =>
    obtain ⟨i, hi, rfl, rfl, Hp, hE⟩ := hrel
    generalize wr = X at *
    by_cases hlt : i < M.length
    · have hii : (i : Int) < (M.length : Int) := by omega
      have hic : (i : Int) ≤ (cap : Int) := by omega
      obtain rfl := HS.out.addr (by rw [HV.out]; omega)
      obtain ⟨sr, br, or, cr, hrow, hrc, hSr⟩ := MatR.row HS.out HV.out HR.out hlt
      have hrl : M[i].length = n := HRt.out _ (List.getElem_mem hlt)
      have hrd : M.getD i [] = M[i] := getD_get hlt []
      obtain ⟨r, hrr⟩ : ∃ r, r = M[i] := ⟨_, rfl⟩
      rw [← hrr] at hrow hrc hSr hrl hrd
      rw [hrl] at hrow hrc
      have hrow' := hE.cell hrow
      have Hrl := Lib.hid hrl
      have Hrd := Lib.hid hrd
      have hpc := Lib.hid (fun W (hW : Ext w W) => pivot_any (w := W) (v := .slice sr n cr) (r := r) ⟨sr, br, or, cr, by rw [Hrl.out], by rw [Hrl.out]; exact hrc, hSr.ext hW⟩ (by rw [Hrl.out]; exact hn))
      have hb1 := bef_ge M i
      have HSr := Lib.hid hSr
      clear hrow hrr hrl hrd hSr
      have hEW := (Ext.refl X).alloc (.cells #[.slice sr n cr] 35)
      have hfin : ∀ W, Ext w W → rowOk M i = false → (.returned (.bool false) : Ending) = .returned (.bool (isF M)) ∧ Ext w W := fun W hW h => ⟨by rw [isF_no hlt h], hW⟩
      have Hfin := Lib.hid hfin
      clear hfin
      obtain ⟨be, hbe⟩ : ∃ be, be = bef M i := ⟨_, rfl⟩
      rw [← hbe] at hb1 ⊢
      have Hbe := Lib.hid hbe
      clear hbe
      by_cases h1 : pvI r ≤ be
      · have Hno := Lib.hid (rowOk_no1 (M := M) (i := i) (by rw [Hrd.out, ← Hbe.out]; exact h1))
        obtain ⟨q, hq⟩ : ∃ q, q = pvI r := ⟨_, rfl⟩
        rw [← hq] at h1 hpc
        clear hq
        go_wp2_with fail
        refine (hpc.out _ (hE.trans hEW)).mono ?_
        rintro e W ⟨rfl, hW⟩
        have c5 := hW.cell (show (X.alloc (.cells #[.slice sr n cr] 35)).cell? ⟨X.heap.size, 0, none⟩ = some (.slice sr n cr) by go_simp)
        go_wp2_with fail
        go_ret
        exact Hfin.out _ (((hE.trans hEW).trans hW).alloc _) Hno.out
      · have hpn : pv r < r.length ∧ pvI r = (pv r : Int) := by
          unfold pvI at h1 ⊢
          by_cases h : pv r < r.length
          · exact ⟨h, by rw [if_pos h]⟩
          · rw [if_neg h] at h1; omega
        rw [hpn.2] at hpc h1
        have hpn2 : pv r < n := by have := hpn.1; rw [Hrl.out] at this; exact this
        have hH1 := Lib.hid (show bef M i < pvI (M.getD i []) by rw [Hrd.out, hpn.2, ← Hbe.out]; omega)
        have HpI := Lib.hid hpn.2
        have ha := (HSr.out.ext hE).cell (pv r) (.int .i64 (r.getD (pv r) 0)) (by rw [getD_get hpn.1]; exact is_get hpn.1)
        obtain rfl := HSr.out.addr (by rw [is_length]; omega)
        obtain ⟨p, hp⟩ : ∃ p, p = pv r := ⟨_, rfl⟩
        obtain ⟨a, hae⟩ : ∃ a, a = r.getD p 0 := ⟨_, rfl⟩
        have heM : eM M i (pv (M.getD i [])) = a := by rw [Hrd.out, hae, hp]; unfold eM; rw [Hrd.out]
        rw [← hp] at hpc h1 hpn2 ha HpI
        rw [← hae] at ha
        have Hp1 := Lib.hid hp
        have Hae := Lib.hid hae
        have HeM := Lib.hid heM
        have hpi : (p : Int) < (n : Int) := by omega
        have h1b : be < (p : Int) := by omega
        clear hp hae heM hpn h1
        by_cases h2 : a < 0
        · have Hno := Lib.hid (rowOk_no2 (M := M) (i := i) (by rw [HeM.out]; exact h2))
          go_wp2_with fail
          refine (hpc.out _ (hE.trans hEW)).mono ?_
          rintro e W ⟨rfl, hW⟩
          have c5 := hW.cell (show (X.alloc (.cells #[.slice (some ⟨br, or, none⟩) n cr] 35)).cell? ⟨X.heap.size, 0, none⟩ = some (.slice (some ⟨br, or, none⟩) n cr) by go_simp)
          have c6 := hW.cell (hEW.cell ha)
          have l6 := World.block_lt_of_cell? _ _ c6
          have l5 := World.block_lt_of_cell? _ _ c5
          go_wp2_with fail
          go_ret
          exact Hfin.out _ (((hE.trans hEW).trans hW).alloc _) Hno.out
        · have h20 : 0 ≤ a := by omega
          clear h2
          go_wp2_with fail
          refine (hpc.out _ (hE.trans hEW)).mono ?_
          rintro e W ⟨rfl, hW⟩
          have c5 := hW.cell (show (X.alloc (.cells #[.slice (some ⟨br, or, none⟩) n cr] 35)).cell? ⟨X.heap.size, 0, none⟩ = some (.slice (some ⟨br, or, none⟩) n cr) by go_simp)
          have c6 := hW.cell (hEW.cell ha)
          have l6 := World.block_lt_of_cell? _ _ c6
          have l5 := World.block_lt_of_cell? _ _ c5
          have hXW : X.heap.size < W.heap.size := by have := hW.size; simp at this; omega
          have hE3 := ((hE.trans hEW).trans hW).alloc (.cells #[.int .i64 (p : Int)] 3)
          have d5 := ((Ext.refl W).alloc (.cells #[.int .i64 (p : Int)] 3)).cell c5
          have d6 := show (W.alloc (.cells #[.int .i64 (p : Int)] 3)).cell? ⟨W.heap.size, 0, none⟩ = some (.int .i64 (p : Int)) by go_simp
          have hcon := contains_isForm (cap := cap) (c1 := .pointer (some ⟨W.heap.size, 0, none⟩)) (c2 := .pointer (some ⟨X.heap.size, 0, none⟩)) (p := bad M i) (vs := vs.take i) ((HS.out.ext hE3).take i) (by rw [List.length_take, HV.out]; omega) (fun k hk W2 hW2 => by
            have hki : k < i := by rw [List.length_take] at hk; omega
            have hkM : k < M.length := by omega
            obtain ⟨sk, bk, ok, ck, hrk, hck, hSk⟩ := MatR.row HS.out HV.out HR.out hkM
            have e1 : (vs.take i)[k] = .slice sk n ck := by
              rw [List.getElem_take]
              have := HS.out.cell k _ (List.getElem?_eq_getElem (by rw [HV.out]; exact hkM))
              rw [this] at hrk
              rw [Option.some.inj hrk, HRt.out _ (List.getElem_mem hkM)]
            rw [e1]
            have := isFormC_any (w := W2) (cap := ck) (p := p) (bp := W.heap.size) (br := X.heap.size) ((hSk.ext hE3).ext hW2) ((HSr.out.ext hE3).ext hW2) (HRt.out _ (List.getElem_mem hkM)) Hrl.out hn hpn2 (hW2.cell d6) (hW2.cell d5)
            have e2 : bad M i k = (decide (M[k].getD p 0 < 0) || decide (r.getD p 0 ≤ M[k].getD p 0)) := by
              unfold bad eM
              rw [Hrd.out, ← Hp1.out, getD_get hkM []]
            rw [e2]; exact this)
          rw [List.length_take, HV.out, Nat.min_eq_left (by omega)] at hcon
          have Hcon := Lib.hid hcon
          clear hcon
          cases hany : anyB (bad M i) i
          · rw [hany] at Hcon
            have Hok := Lib.hid (rowOk_yes hH1.out (by rw [HeM.out]; exact h20) hany)
            clear hany
            go_wp2_with fail
            refine Hcon.out.mono ?_
            rintro e W2 ⟨rfl, hW2⟩
            have d7 := hW2.cell d6
            go_wp2_with fail
            go_roundw
            case rel => exact ⟨i + 1, by omega, by go_num, by unfold bef; rw [if_neg (by omega), Nat.add_sub_cancel, Hrd.out, HpI.out], Lib.hid (fun j hj => by
              by_cases e : j = i
              · subst e; exact Hok.out
              · exact Hp.out j (by omega)), hE3.trans hW2⟩
            case measure => simp [intOf] <;> omega
          · rw [hany] at Hcon
            have Hno := Lib.hid (rowOk_no3 hany)
            clear hany
            go_wp2_with fail
            refine Hcon.out.mono ?_
            rintro e W2 ⟨rfl, hW2⟩
            go_wp2_with fail
            go_ret
            exact Hfin.out _ (hE3.trans hW2) Hno.out
    · have Hyes := Lib.hid (isF_yes (M := M) (fun j hj => Hp.out j (by omega)))
      go_wp2_with fail
      go_ret
      exact ⟨by rw [Hyes.out]; rfl, hE⟩
end Go.Proofs.YthmhmkkcjlgbjaaGreatDoor
/- hermite: IsForm; isF is the normal form. -/
namespace Go.Proofs.YthmhmkkcjlgbjaaGreatDoor
open Go.RowKit Go.Sort
theorem rowOk_parts {M : Mx} {i : Nat} (h : rowOk M i = true) : bef M i < pvI (M.getD i []) ∧ 0 ≤ eM M i (pv (M.getD i [])) ∧ ∀ k, k < i → bad M i k = false := by
  unfold rowOk at h
  simp only [Bool.and_eq_true, decide_eq_true_eq, Bool.not_eq_true'] at h
  exact ⟨h.1.1, h.1.2, anyB_false h.2⟩
theorem getD_map {α β : Type} (f : α → β) (l : List α) (i : Nat) (h : i < l.length) (d : β) (e : α) : (l.map f).getD i d = f (l.getD i e) := by
  rw [getD_get (by simpa using h), getD_get h]; simp
theorem isF_isH {n : Nat} {M : Mx} (hR : Rect n M) (h : isF M = true) : IsH n (M.map pv) M := by
  have hrow := fun i (hi : i < M.length) => rowOk_parts (isF_at h hi)
  have hp : ∀ i, i < M.length → (M.map pv).getD i 0 = pv (M.getD i []) := fun i hi => getD_map pv M i hi 0 []
  have hlen : ∀ i, i < M.length → (M.getD i []).length = n := fun i hi => by rw [getD_get hi]; exact hR _ (List.getElem_mem hi)
  have hlt : ∀ i, i < M.length → pv (M.getD i []) < n ∧ pvI (M.getD i []) = (pv (M.getD i []) : Int) := fun i hi => by
    have h1 := (hrow i hi).1
    have h2 := bef_ge M i
    unfold pvI at h1 ⊢
    by_cases h3 : pv (M.getD i []) < (M.getD i []).length
    · rw [if_pos h3]; rw [hlen i hi] at h3; exact ⟨h3, rfl⟩
    · rw [if_neg h3] at h1; omega
  have hstep : ∀ i, i + 1 < M.length → pv (M.getD i []) < pv (M.getD (i + 1) []) := fun i hi => by
    have h1 := (hrow (i + 1) hi).1
    unfold bef at h1
    rw [if_neg (by omega), Nat.add_sub_cancel, (hlt i (by omega)).2, (hlt (i + 1) hi).2] at h1
    omega
  have hinc : ∀ d i, i + d + 1 < M.length → pv (M.getD i []) < pv (M.getD (i + d + 1) []) := by
    intro d
    induction d with
    | zero => intro i hi; exact hstep i hi
    | succ d ih =>
      intro i hi
      have h1 := ih i (by omega)
      have h2 := hstep (i + d + 1) (by omega)
      rw [show i + (d + 1) + 1 = i + d + 1 + 1 by omega]; omega
  refine ⟨hR, by simp, fun i hi => ?_, fun i k hik hk => ?_, fun i hi j hj => ?_, fun i hi => ?_, fun i k hik hk => ?_⟩
  · rw [hp i hi]; exact (hlt i hi).1
  · rw [hp i (by omega), hp k hk]
    have := hinc (k - i - 1) i (by omega)
    rwa [show i + (k - i - 1) + 1 = k by omega] at this
  · rw [hp i hi] at hj
    exact pv_zero hj
  · rw [hp i hi]
    have h1 := (hrow i hi).2.1
    have h2 := pv_ne (r := M.getD i []) (by rw [hlen i hi]; exact (hlt i hi).1)
    have : eM M i (pv (M.getD i [])) ≠ 0 := h2
    omega
  · rw [hp k hk]
    have := (hrow k hk).2.2 i hik
    unfold bad at this
    simp only [Bool.or_eq_false_iff, decide_eq_false_iff_not] at this
    omega
theorem isH_pv {n : Nat} {ps : List Nat} {M : Mx} (h : IsH n ps M) : ps = M.map pv := by
  refine List.ext_getElem (by rw [h.len]; simp) fun i h1 h2 => ?_
  have hi : i < M.length := by simpa using h2
  have hp := h.pos i hi
  have hl := h.left i hi
  rw [getD_get h1] at hp hl
  have := (pv_of (r := M.getD i []) (p := ps[i]) (by show eM M i ps[i] ≠ 0; omega) (fun j hj => hl j hj)).1
  rw [List.getElem_map, ← this, getD_get hi]
theorem isH_isF {n : Nat} {ps : List Nat} {M : Mx} (h : IsH n ps M) : isF M = true := by
  have e := isH_pv h
  subst e
  have hp : ∀ i, i < M.length → (M.map pv).getD i 0 = pv (M.getD i []) := fun i hi => getD_map pv M i hi 0 []
  have hlen : ∀ i, i < M.length → (M.getD i []).length = n := fun i hi => by rw [getD_get hi]; exact h.rect _ (List.getElem_mem hi)
  have hI : ∀ i, i < M.length → pvI (M.getD i []) = (pv (M.getD i []) : Int) := fun i hi => by
    have := h.lt i hi
    rw [hp i hi] at this
    unfold pvI; rw [if_pos (by rw [hlen i hi]; exact this)]
  refine isF_yes fun i hi => rowOk_yes ?_ ?_ (anyB_no fun k hk => ?_)
  · unfold bef
    rw [hI i hi]
    split
    · omega
    · rw [hI (i - 1) (by omega)]
      have := h.inc (i - 1) i (by omega) hi
      rw [hp i hi, hp (i - 1) (by omega)] at this
      omega
  · have := h.pos i hi
    rw [hp i hi] at this; omega
  · have := h.red k i hk hi
    rw [hp i hi] at this
    unfold bad
    simp only [Bool.or_eq_false_iff, decide_eq_false_iff_not]
    omega
/-- What IsForm returns. -/
def isFE (M : Mx) : Bool := if checkM M = 0 then isF M else false
theorem IsForm_any {w : World} {v : Value} {M : Mx} (hM : MatR w v M) :
    Calls Tryz.prog 16 #[v] w fun e w' => e = .returned (.tuple #[.bool (isFE M), .int .i64 (checkM M)]) ∧ Ext w w' := by
  have hck := Lib.hid (tableCheck_any hM)
  obtain ⟨c, hc⟩ : ∃ c, c = checkM M := ⟨_, rfl⟩
  by_cases h0 : c = 0
  · have hc0 : checkM M = 0 := by omega
    obtain ⟨h1, h2, h3, _⟩ := checkM_ok hc0
    have hif := Lib.hid (fun W (hW : Ext w W) => isForm_any (hM.ext hW) h3 (by omega) (by omega))
    have hE : isFE M = isF M := by unfold isFE; rw [if_pos hc0]
    rw [hE, hc0]
    rw [hc0] at hck
    clear hM hc h0 h1 h2 h3 hE hc0 c
    go_enter Tryz.func16, Tryz.ntmps16
    go_wp2_with fail
    refine hck.out.mono ?_
    rintro e w1 ⟨rfl, hE1⟩
    go_wp2_with fail
    refine (hif.out _ hE1).mono ?_
    rintro e w2 ⟨rfl, hE2⟩
    go_wp2_with fail
    go_ret2
    exact ⟨rfl, hE1.trans hE2⟩
  · have hE : isFE M = false := by unfold isFE; rw [if_neg (by omega)]
    rw [hE]
    rw [← hc] at hck ⊢
    have hcb : (c == 0) = false := beq_eq_false_iff_ne.2 h0
    have hcb2 : (c != 0) = true := by simp [bne, hcb]
    clear hM hc hE
    go_enter Tryz.func16, Tryz.ntmps16
    go_wp2_with fail
    refine hck.out.mono ?_
    rintro e w1 ⟨rfl, hE1⟩
    go_wp2_with fail
    go_ret2
    exact ⟨rfl, hE1⟩
end Go.Proofs.YthmhmkkcjlgbjaaGreatDoor
/- hermite: Pivots; errors of Form, Transform, Unimodular -/
namespace Go.Proofs.YthmhmkkcjlgbjaaGreatDoor
open Go.RowKit Go.Sort
/-- The error of Pivots. -/
def pivE (M : Mx) : Int := if checkM M = 0 then (if isF M then 0 else 7) else checkM M
def PivPost (w : World) (M : Mx) (e : Ending) (w' : World) : Prop :=
  (if pivE M = 0 then ∃ v, e = .returned (.tuple #[v, .int .i64 0]) ∧ RowV w.heap.size w' v (M.map pvI) else e = .returned (.tuple #[.slice none 0 0, .int .i64 (pivE M)])) ∧ Ext w w'
theorem pivPost_err {w w' : World} {M : Mx} {c : Int} (h : pivE M = c) (hc : c ≠ 0) (hE : Ext w w') : PivPost w M (.returned (.tuple #[.slice none 0 0, .int .i64 c])) w' := by
  unfold PivPost; rw [h, if_neg hc]; exact ⟨rfl, hE⟩
set_option maxRecDepth 100000 in
set_option maxHeartbeats 1000000 in
theorem Pivots_any {w : World} {v : Value} {M : Mx} (hM : MatR w v M) : Calls Tryz.prog 21 #[v] w (PivPost w M) := by
  have hif := Lib.hid (IsForm_any hM)
  obtain ⟨c, hc⟩ : ∃ c, c = checkM M := ⟨_, rfl⟩
  by_cases h0 : c = 0
  · have hc0 : checkM M = 0 := by omega
    rw [show isFE M = isF M by unfold isFE; rw [if_pos hc0], hc0] at hif
    clear hc h0 c
    cases hf : isF M
    · rw [hf] at hif
      have hE : pivE M = 7 := by unfold pivE; rw [if_pos hc0, hf]; rfl
      have HE := Lib.hid hE
      clear hf hE hc0 hM
      go_enter Tryz.func21, Tryz.ntmps21
      go_wp2_with fail
      refine hif.out.mono ?_
      rintro e w1 ⟨rfl, hE1⟩
      go_wp2_with fail
      go_ret2
      exact pivPost_err HE.out (by decide) hE1
    · rw [hf] at hif
      have hE : pivE M = 0 := by unfold pivE; rw [if_pos hc0, hf]; rfl
      have HE := Lib.hid hE
      obtain ⟨h1, h2, h3, _⟩ := checkM_ok hc0
      obtain ⟨sa, gb, go, cap, vs, rfl, hcap, hvl, hS, hr⟩ := hM
      have HS := Lib.hid hS
      have HV := Lib.hid hvl
      have HR := Lib.hid hr
      have HRt := Lib.hid h3
      clear hf hE hc0 hS hvl hr h3
      go_enter Tryz.func21, Tryz.ntmps21
      go_wp2_with fail
      refine hif.out.mono ?_
      rintro e w1 ⟨rfl, hE1⟩
      go_wp2_with fail
      go_loopw [6, 21] (fun out idx wr => ∃ i : Nat, i ≤ M.length ∧ idx = .int .i64 i ∧ Hid (RowV w.heap.size wr out ((M.map pvI).take i)) ∧ Ext w wr) (fun _ idx _ => M.length - (intOf idx).toNat)
      case atStart => exact ⟨0, by omega, by go_num, Lib.hid (RowV.nil _ _), hE1⟩
      case round =>
        obtain ⟨i, hi, rfl, hO, hE⟩ := hrel
        generalize wr = X at *
        by_cases hlt : i < M.length
        · have hii : (i : Int) < (M.length : Int) := by omega
          obtain rfl := HS.out.addr (by rw [HV.out]; omega)
          obtain ⟨sr, br, or, cr, hrow, hrc, hSr⟩ := MatR.row HS.out HV.out HR.out hlt
          have hrl : M[i].length = ncols M := HRt.out _ (List.getElem_mem hlt)
          have hrow' := hE.cell hrow
          rw [hrl] at hrow'
          have hpc := Lib.hid (pivot_any (w := X) (v := .slice sr (ncols M) cr) (r := M[i]) ⟨sr, br, or, cr, by rw [hrl], hrc, hSr.ext hE⟩ (by omega))
          have hil : ((M.map pvI).take i).length = i := by rw [List.length_take, List.length_map]; omega
          have Hil := Lib.hid hil
          obtain ⟨q, hq⟩ : ∃ q, q = pvI M[i] := ⟨_, rfl⟩
          rw [← hq] at hpc
          have Hsn := Lib.hid (show (M.map pvI).take (i + 1) = (M.map pvI).take i ++ [q] by
            rw [List.take_succ_eq_append_getElem (by simpa using hlt), hq]; simp)
          clear hq hrow hrl hrc hSr hil
          go_wp2_with fail
          refine hpc.out.mono ?_
          rintro e W ⟨rfl, hW⟩
          have HO2 := Lib.hid (hO.out.ext hW)
          have hE2 := Lib.hid (hE.trans hW)
          have hsz := hE2.out.size
          clear hpc hW
          go_wp2_with (at_builtin; refine app_int rfl _ _ 34 Tryz.underlying34 rfl rfl (HO2.out.ext ((Ext.refl _).alloc _)) rfl (b := W.heap.size) (z := q) (by go_simp) (by rw [Hil.out]; omega) (by simp; omega) ?_; intro gg cap2 w8 hO8 hB8 hG8; rw [Hil.out] at hO8 ⊢)
          rw [← Hsn.out] at hO8
          have hE8 : Ext w w8 := Below.trans (hE2.out.alloc (.cells #[.int .i64 q] 3)) hB8
          clear hG8 hB8
          go_wp2_with fail
          go_roundw
          case rel => exact ⟨i + 1, by omega, by go_num, Lib.hid hO8, hE8⟩
          case measure => simp [intOf] <;> omega
        · have hie : i = M.length := by omega
          subst hie
          go_wp2_with fail
          go_ret2
          refine ⟨?_, hE⟩
          rw [if_pos HE.out]
          refine ⟨_, rfl, ?_⟩
          have := hO.out
          rwa [List.take_of_length_le (by simp)] at this
  · have hE : pivE M = c := by unfold pivE; rw [if_neg (by omega), hc]
    rw [← hc] at hif
    have hcb : (c == 0) = false := beq_eq_false_iff_ne.2 h0
    have hcb2 : (c != 0) = true := by simp [bne, hcb]
    have HE := Lib.hid hE
    clear hM hc hE
    go_enter Tryz.func21, Tryz.ntmps21
    go_wp2_with fail
    refine hif.out.mono ?_
    rintro e w1 ⟨rfl, hE1⟩
    go_wp2_with fail
    go_ret2
    exact pivPost_err HE.out h0 hE1
theorem Form_err {w : World} {v : Value} {M : Mx} {c : Int} (hM : MatR w v M) (hc : checkM M = c) (h0 : c ≠ 0) :
    Calls Tryz.prog 12 #[v] w fun e w' => e = .returned (.tuple #[.slice none 0 0, .int .i64 c]) ∧ Ext w w' := by
  have hck := Lib.hid (tableCheck_any hM)
  rw [hc] at hck
  have hcb : (c == 0) = false := beq_eq_false_iff_ne.2 h0
  have hcb2 : (c != 0) = true := by simp [bne, hcb]
  clear hM hc
  go_enter Tryz.func12, Tryz.ntmps12
  go_wp2_with fail
  refine hck.out.mono ?_
  rintro e w1 ⟨rfl, hE1⟩
  go_wp2_with fail
  go_ret2
  exact ⟨rfl, hE1⟩
theorem Transform_err {w : World} {v : Value} {M : Mx} {c : Int} (hM : MatR w v M) (hc : checkM M = c) (h0 : c ≠ 0) :
    Calls Tryz.prog 22 #[v] w fun e w' => e = .returned (.tuple #[.slice none 0 0, .int .i64 c]) ∧ Ext w w' := by
  have hfo := Lib.hid (Form_err hM hc h0)
  have hcb : (c == 0) = false := beq_eq_false_iff_ne.2 h0
  have hcb2 : (c != 0) = true := by simp [bne, hcb]
  clear hM hc
  go_enter Tryz.func22, Tryz.ntmps22
  go_wp2_with fail
  refine hfo.out.mono ?_
  rintro e w1 ⟨rfl, hE1⟩
  go_wp2_with fail
  go_ret2
  exact ⟨rfl, hE1⟩
theorem Unimodular_err {w : World} {v : Value} {M : Mx} {c : Int} (hM : MatR w v M) (hc : checkM M = c) (h0 : c ≠ 0) :
    Calls Tryz.prog 23 #[v] w fun e w' => e = .returned (.tuple #[.bool false, .int .i64 c]) ∧ Ext w w' := by
  have hck := Lib.hid (tableCheck_any hM)
  rw [hc] at hck
  have hcb : (c == 0) = false := beq_eq_false_iff_ne.2 h0
  have hcb2 : (c != 0) = true := by simp [bne, hcb]
  clear hM hc
  go_enter Tryz.func23, Tryz.ntmps23
  go_wp2_with fail
  refine hck.out.mono ?_
  rintro e w1 ⟨rfl, hE1⟩
  go_wp2_with fail
  go_ret2
  exact ⟨rfl, hE1⟩
end Go.Proofs.YthmhmkkcjlgbjaaGreatDoor
/- Plain: a row reduced by a form. -/
namespace Go.Proofs.YthmhmkkcjlgbjaaGreatDoor
open Hnf (V Span Ech Red)
/-- The multiple of a form's row that is taken away. -/
def stepQ (r x : List Int) : Int := (x.getD (pv r) 0).fdiv (r.getD (pv r) 0)
/-- What is left of a row, and the multiples. -/
def redX : Mx → List Int → List Int
  | [], x => x
  | r :: F, x => redX F (subK (stepQ r x) x r)
def redQ : Mx → List Int → List Int
  | [], _ => []
  | r :: F, x => stepQ r x :: redQ F (subK (stepQ r x) x r)
theorem redX_snoc (r : List Int) : ∀ (F : Mx) (x : List Int), redX (F ++ [r]) x = subK (stepQ r (redX F x)) (redX F x) r
  | [], x => rfl
  | f :: F, x => by rw [List.cons_append, redX, redX, redX_snoc r F]
theorem redQ_snoc (r : List Int) : ∀ (F : Mx) (x : List Int), redQ (F ++ [r]) x = redQ F x ++ [stepQ r (redX F x)]
  | [], x => rfl
  | f :: F, x => by rw [List.cons_append, redQ, redQ, redX, redQ_snoc r F]; rfl
@[simp] theorem redX_length : ∀ (F : Mx) (x : List Int), (redX F x).length = x.length
  | [], x => rfl
  | f :: F, x => by rw [redX, redX_length F]; simp
@[simp] theorem redQ_length : ∀ (F : Mx) (x : List Int), (redQ F x).length = F.length
  | [], x => rfl
  | f :: F, x => by rw [redQ, List.length_cons, redQ_length F]; rfl
theorem redX_take {F : Mx} {i : Nat} (h : i < F.length) (x : List Int) : redX (F.take (i + 1)) x = subK (stepQ (F.getD i []) (redX (F.take i) x)) (redX (F.take i) x) (F.getD i []) := by
  rw [take_snocM h, redX_snoc, getD_get h]
theorem redQ_take {F : Mx} {i : Nat} (h : i < F.length) (x : List Int) : redQ (F.take (i + 1)) x = redQ (F.take i) x ++ [stepQ (F.getD i []) (redX (F.take i) x)] := by
  rw [take_snocM h, redQ_snoc, getD_get h]
/-- Each row has an element that is not 0. -/
def Piv (F : Mx) : Prop := ∀ i, i < F.length → (F.getD i []).getD (pv (F.getD i [])) 0 ≠ 0
theorem IsH.piv {n : Nat} {ps : List Nat} {F : Mx} (h : IsH n ps F) : Piv F := by
  intro i hi
  have e := isH_pv h
  have := h.pos i hi
  rw [e, getD_map pv F i hi 0 []] at this
  have h2 : eM F i (pv (F.getD i [])) ≠ 0 := by omega
  exact h2
theorem stepQ_abs {r x : List Int} (h : r.getD (pv r) 0 ≠ 0) {B : Nat} (hB : 0 < B) (hx : ∀ z ∈ x, z.natAbs < B) : (stepQ r x).natAbs < B := by
  refine Nat.lt_of_le_of_lt (fdiv_abs _ h) ?_
  rw [List.getD_eq_getElem?_getD]
  rcases Nat.lt_or_ge (pv r) x.length with hl | hl
  · rw [List.getElem?_eq_getElem hl]; exact hx _ (List.getElem_mem hl)
  · rw [List.getElem?_eq_none hl]; simpa using hB
theorem redX_small {F : Mx} {x : List Int} (hP : Piv F) (hF : ∀ r ∈ F, ∀ z ∈ r, z.natAbs < 2 ^ 30) (hx : ∀ z ∈ x, z.natAbs < 2 ^ 30) : ∀ i, i ≤ F.length → ∀ z ∈ redX (F.take i) x, z.natAbs < 2 ^ (30 + 31 * i)
  | 0, _ => by simpa [redX] using hx
  | i + 1, h => by
    have ih := redX_small hP hF hx i (by omega)
    rw [redX_take (by omega)]
    have p0 : 0 < 2 ^ (30 + 31 * i) := Nat.pow_pos (by omega)
    have hq := stepQ_abs (hP i (by omega)) p0 ih
    generalize stepQ (F.getD i []) (redX (F.take i) x) = q at *
    refine subK_all q (Q := fun z => z.natAbs < 2 ^ (30 + 31 * i)) (R := fun z => z.natAbs < 2 ^ 30) ?_ ?_ _ _ ih (fun z hz => ?_)
    · intro z hz; exact Nat.lt_of_lt_of_le hz (Nat.pow_le_pow_right (by omega) (by omega))
    · intro y z hy hz
      have h1 : (q * z).natAbs ≤ 2 ^ (30 + 31 * i) * 2 ^ 30 := by
        rw [Int.natAbs_mul]; exact Nat.mul_le_mul (Nat.le_of_lt hq) (Nat.le_of_lt hz)
      have e : 2 ^ (30 + 31 * (i + 1)) = 2 ^ (30 + 31 * i) * 2 ^ 30 * 2 := by
        rw [show 30 + 31 * (i + 1) = (30 + 31 * i) + 30 + 1 by omega, Nat.pow_succ, Nat.pow_add]
      have h2 : 2 ^ (30 + 31 * i) ≤ 2 ^ (30 + 31 * i) * 2 ^ 30 := Nat.le_mul_of_pos_right _ (Nat.pow_pos (by omega))
      rw [e]
      have hy' : y.natAbs < 2 ^ (30 + 31 * i) := hy
      omega
    · rw [getD_get (by omega)] at hz
      exact hF _ (List.getElem_mem (by omega)) z hz
/-- The rest differs from the row by an element of the lattice. -/
theorem redX_span {n : Nat} : ∀ (F : Mx) (x : List Int), Rect n F → x.length = n → Span (latM F) (Hnf.sub (vr x) 1 (vr (redX F x)))
  | [], x, _, _ => by
    have e : Hnf.sub (vr x) 1 (vr (redX [] x)) = fun _ => 0 := by funext j; simp [Hnf.sub, redX]
    rw [e]; exact .zero
  | r :: F, x, hF, hx => by
    have hr : r.length = n := hF r (by simp)
    have ih := redX_span F (subK (stepQ r x) x r) (fun s hs => hF s (by simp [hs])) (by simp [hx])
    have h2 : Span (latM (r :: F)) (Hnf.sub (vr (subK (stepQ r x) x r)) 1 (vr (redX F (subK (stepQ r x) x r)))) := ih.mono fun v hv => by
      simp only [latM, List.map_cons]; exact List.mem_cons_of_mem _ hv
    have h3 := h2.step (-(stepQ r x)) (r := vr r) (by simp [latM])
    refine span_of_eq h3 fun j => ?_
    rw [redX, vr_sub _ (by omega)]
    simp only [Hnf.sub]; grind
theorem redX_keep {n : Nat} : ∀ (F : Mx) (x : List Int) (j : Nat), Rect n F → x.length = n → (∀ r ∈ F, r.getD j 0 = 0) → (redX F x).getD j 0 = x.getD j 0
  | [], x, j, _, _, _ => rfl
  | r :: F, x, j, hF, hx, hz => by
    have hr : r.length = n := hF r (by simp)
    rw [redX, redX_keep F _ j (fun s hs => hF s (by simp [hs])) (by simp [hx]) (fun s hs => hz s (by simp [hs])), subK_getD _ _ _ _ (by omega), hz r (by simp)]
    simp
/-- The rest is reduced at the pivots. -/
theorem redX_range {n : Nat} {ps : List Nat} {F : Mx} (h : IsH n ps F) {x : List Int} (hx : x.length = n) (i : Nat) (hi : i < F.length) : 0 ≤ (redX F x).getD (ps.getD i 0) 0 ∧ (redX F x).getD (ps.getD i 0) 0 < eM F i (ps.getD i 0) := by
  have e : redX F x = redX (F.drop (i + 1)) (redX (F.take (i + 1)) x) := by
    have : ∀ (A B : Mx) (y : List Int), redX (A ++ B) y = redX B (redX A y) := by
      intro A
      induction A with
      | nil => intro B y; rfl
      | cons a A ih => intro B y; rw [List.cons_append, redX, redX, ih]
    rw [← this, List.take_append_drop]
  have hl1 : (redX (F.take (i + 1)) x).length = n := by simp [hx]
  have hFi : (F.getD i []).length = n := by rw [getD_get hi]; exact h.rect _ (List.getElem_mem hi)
  rw [e, redX_keep (n := n) _ _ _ (fun s hs => h.rect s (List.mem_of_mem_drop hs)) hl1 (fun r hr => ?_), redX_take hi, subK_getD _ _ _ _ (by rw [hFi, redX_length, hx]; exact Nat.le_refl _)]
  · have hpi : ps.getD i 0 = pv (F.getD i []) := by rw [isH_pv h, getD_map pv F i hi 0 []]
    rw [hpi]
    have hpos := h.pos i hi
    rw [hpi] at hpos
    exact fdr_pos hpos
  · obtain ⟨t, ht, rfl⟩ := List.getElem_of_mem hr
    rw [List.getElem_drop]
    have ht' : i + 1 + t < F.length := by simp at ht; omega
    have := h.left (i + 1 + t) ht' (ps.getD i 0) (h.inc i (i + 1 + t) (by omega) ht')
    unfold eM at this
    rw [getD_get ht'] at this
    exact this
def zeroL (l : List Int) : Prop := ∀ z ∈ l, z = 0
theorem zero_vr {l : List Int} : zeroL l ↔ ∀ j, vr l j = 0 := by
  constructor
  · intro h j
    show l.getD j 0 = 0
    rw [List.getD_eq_getElem?_getD]
    rcases Nat.lt_or_ge j l.length with hj | hj
    · rw [List.getElem?_eq_getElem hj]; exact h _ (List.getElem_mem hj)
    · rw [List.getElem?_eq_none hj]; rfl
  · intro h z hz
    obtain ⟨j, hj, rfl⟩ := List.getElem_of_mem hz
    have := h j
    show l[j] = 0
    rw [← getD_get hj 0]; exact this
/-- A row belongs to the lattice just if nothing is left. -/
theorem redX_zero {n : Nat} {ps : List Nat} {F : Mx} (h : IsH n ps F) {x : List Int} (hx : x.length = n) : zeroL (redX F x) ↔ Span (latM F) (vr x) := by
  have hs := redX_span F x h.rect hx
  rw [zero_vr]
  constructor
  · intro hz
    refine span_of_eq hs fun j => ?_
    simp [Hnf.sub, hz j]
  · intro hv
    have hr : Span (latM F) (vr (redX F x)) := by
      refine span_of_eq (hv.sub 1 hs) fun j => ?_
      simp only [Hnf.sub]; omega
    rcases Hnf.first (vr (redX F x)) with h0 | ⟨j, hj, hz⟩
    · exact h0
    · exfalso
      rw [← wps_rows h.len] at hr
      obtain ⟨g, hg, e, hd⟩ := h.ech.lead hr hj hz
      obtain ⟨i, hi, rfl⟩ := wps_mem h.len hg
      simp only at e hd
      subst e
      have hrg := redX_range h hx i hi
      obtain ⟨c, hc⟩ := hd
      have hpos := h.pos i hi
      have hc' : (redX F x).getD (ps.getD i 0) 0 = eM F i (ps.getD i 0) * c := hc
      have hj' : (redX F x).getD (ps.getD i 0) 0 ≠ 0 := hj
      have hlt : (eM F i (ps.getD i 0) * c).natAbs < (eM F i (ps.getD i 0)).natAbs := by rw [← hc']; omega
      rw [Int.natAbs_mul] at hlt
      have hc0 : c.natAbs = 0 := by
        rcases Nat.eq_zero_or_pos c.natAbs with h | h
        · exact h
        · have := Nat.mul_le_mul_left (eM F i (ps.getD i 0)).natAbs h; omega
      have hcz : c = 0 := by omega
      rw [hcz, Int.mul_zero] at hc'
      exact hj' hc'
end Go.Proofs.YthmhmkkcjlgbjaaGreatDoor
