/- Part 12 of the proof of the claim: contracts of the functions that it reaches, and plain laws; no condition. -/
import Derived.Test.YtedlgnoiojcjaaaGreatDoorV11
set_option maxRecDepth 100000
namespace Go.Proofs.YtedlgnoiojcjaaaGreatDoor
open Go.RowKit Go.Sort
set_option maxHeartbeats 1000000 in
theorem index_great {w : World} {sa : Option Addr} {gb go cap : Nat} {vs : List Value} {p : Nat → Bool} {k : Int} (hS : Sl w sa gb go vs) (hl : vs.length ≤ 1000000)
  (hF : ∀ i (h : i < vs.length) W, Ext w W → Calls Tryz.prog 266 #[vs[i]] W fun e w' => e = .returned (.bool (p i)) ∧ Ext W w') (hk : IxR p vs.length k) :
  Calls Tryz.prog 193 #[.slice sa vs.length cap, .func (.func 266) #[] #[]] w fun e w' => e = .returned (.int .i64 k) ∧ Ext w w' := by
 have HF := Lib.hid hF
 have HK := Lib.hid hk
 have HS := Lib.hid hS
 clear hF hk hS
 go_enter Tryz.func193, Tryz.ntmps193
 go_wp2_with fail
 go_loopw [8] (fun idx wr => ∃ i : Nat, i ≤ vs.length ∧ idx = .int .i64 i ∧ Hid (∀ j, j < i → p j = false) ∧ Ext w wr) (fun idx _ => vs.length - (intOf idx).toNat)
 case atStart => exact ⟨0, by omega, by go_num, Lib.hid (fun j h => by omega), Ext.refl _⟩
 case round =>
  obtain ⟨i, hi, rfl, Hp, hE⟩ := hrel
  generalize wr = X at *
  by_cases hlt : i < vs.length
  ·have hii : (i : Int) < (vs.length : Int) := by omega
   obtain ⟨u, hu⟩ : ∃ u, u = vs[i] := ⟨_, rfl⟩
   have hc := hE.cell (HS.out.cell i u (by rw [hu]; exact List.getElem?_eq_getElem hlt))
   obtain rfl := HS.out.addr (by omega)
   have hf := HF.out i hlt X hE
   rw [← hu] at hf
   have Hf := Lib.hid hf
   clear hf hu
   cases hpi : p i
   ·rw [hpi] at Hf
    have Hpi := Lib.hid hpi
    clear hpi
    go_wp2_with fail
    refine Hf.out.mono ?_
    rintro e W ⟨rfl, hE2⟩
    go_wp2_with fail
    go_roundw
    case rel => exact ⟨i + 1, by omega, by go_num, Lib.hid (fun j hj => by
     by_cases e : j = i
     ·subst e; exact Hpi.out
     ·exact Hp.out j (by omega)), hE.trans hE2⟩
    case measure => simp [intOf] <;> omega
   ·rw [hpi] at Hf
    have Hki := Lib.hid (IxR_at HK.out hlt hpi Hp.out)
    clear hpi
    go_wp2_with fail
    refine Hf.out.mono ?_
    rintro e W ⟨rfl, hE2⟩
    go_wp2_with fail
    go_ret
    exact ⟨by rw [Hki.out]; rfl, hE.trans hE2⟩
  ·have Hki := Lib.hid (IxR_no HK.out (fun j hj => Hp.out j (by omega)))
   go_wp2_with fail
   go_ret
   exact ⟨by rw [Hki.out]; rfl, hE⟩
theorem contains_great {w : World} {sa : Option Addr} {gb go cap : Nat} {vs : List Value} {p : Nat → Bool} (hS : Sl w sa gb go vs) (hl : vs.length ≤ 1000000)
  (hF : ∀ i (h : i < vs.length) W, Ext w W → Calls Tryz.prog 266 #[vs[i]] W fun e w' => e = .returned (.bool (p i)) ∧ Ext W w') :
  Calls Tryz.prog 147 #[.slice sa vs.length cap, .func (.func 266) #[] #[]] w fun e w' => e = .returned (.bool (anyB p vs.length)) ∧ Ext w w' := by
 obtain ⟨k, hk⟩ := IxR_ex p vs.length
 have Hge := Lib.hid (IxR_ge hk)
 have HI := Lib.hid (index_great (cap := cap) hS hl hF hk)
 clear hS hF hk
 go_enter Tryz.func147, Tryz.ntmps147
 go_wp2_with fail
 refine HI.out.mono ?_
 rintro e W ⟨rfl, hE⟩
 go_wp2_with fail
 go_ret
 exact ⟨by rw [← Hge.out]; rfl, hE⟩
set_option maxHeartbeats 1000000 in
theorem index_rowCheck {w : World} {sa : Option Addr} {gb go cap : Nat} {vs : List Value} {p : Nat → Bool} {k : Int} (hS : Sl w sa gb go vs) (hl : vs.length ≤ 1000000)
  (hF : ∀ i (h : i < vs.length) W, Ext w W → Calls Tryz.prog 148 #[vs[i]] W fun e w' => e = .returned (.bool (p i)) ∧ Ext W w') (hk : IxR p vs.length k) :
  Calls Tryz.prog 193 #[.slice sa vs.length cap, .func (.func 148) #[] #[]] w fun e w' => e = .returned (.int .i64 k) ∧ Ext w w' := by
 have HF := Lib.hid hF
 have HK := Lib.hid hk
 have HS := Lib.hid hS
 clear hF hk hS
 go_enter Tryz.func193, Tryz.ntmps193
 go_wp2_with fail
 go_loopw [8] (fun idx wr => ∃ i : Nat, i ≤ vs.length ∧ idx = .int .i64 i ∧ Hid (∀ j, j < i → p j = false) ∧ Ext w wr) (fun idx _ => vs.length - (intOf idx).toNat)
 case atStart => exact ⟨0, by omega, by go_num, Lib.hid (fun j h => by omega), Ext.refl _⟩
 case round =>
  obtain ⟨i, hi, rfl, Hp, hE⟩ := hrel
  generalize wr = X at *
  by_cases hlt : i < vs.length
  ·have hii : (i : Int) < (vs.length : Int) := by omega
   obtain ⟨u, hu⟩ : ∃ u, u = vs[i] := ⟨_, rfl⟩
   have hc := hE.cell (HS.out.cell i u (by rw [hu]; exact List.getElem?_eq_getElem hlt))
   obtain rfl := HS.out.addr (by omega)
   have hf := HF.out i hlt X hE
   rw [← hu] at hf
   have Hf := Lib.hid hf
   clear hf hu
   cases hpi : p i
   ·rw [hpi] at Hf
    have Hpi := Lib.hid hpi
    clear hpi
    go_wp2_with fail
    refine Hf.out.mono ?_
    rintro e W ⟨rfl, hE2⟩
    go_wp2_with fail
    go_roundw
    case rel => exact ⟨i + 1, by omega, by go_num, Lib.hid (fun j hj => by
     by_cases e : j = i
     ·subst e; exact Hpi.out
     ·exact Hp.out j (by omega)), hE.trans hE2⟩
    case measure => simp [intOf] <;> omega
   ·rw [hpi] at Hf
    have Hki := Lib.hid (IxR_at HK.out hlt hpi Hp.out)
    clear hpi
    go_wp2_with fail
    refine Hf.out.mono ?_
    rintro e W ⟨rfl, hE2⟩
    go_wp2_with fail
    go_ret
    exact ⟨by rw [Hki.out]; rfl, hE.trans hE2⟩
  ·have Hki := Lib.hid (IxR_no HK.out (fun j hj => Hp.out j (by omega)))
   go_wp2_with fail
   go_ret
   exact ⟨by rw [Hki.out]; rfl, hE⟩
theorem contains_rowCheck {w : World} {sa : Option Addr} {gb go cap : Nat} {vs : List Value} {p : Nat → Bool} (hS : Sl w sa gb go vs) (hl : vs.length ≤ 1000000)
  (hF : ∀ i (h : i < vs.length) W, Ext w W → Calls Tryz.prog 148 #[vs[i]] W fun e w' => e = .returned (.bool (p i)) ∧ Ext W w') :
  Calls Tryz.prog 147 #[.slice sa vs.length cap, .func (.func 148) #[] #[]] w fun e w' => e = .returned (.bool (anyB p vs.length)) ∧ Ext w w' := by
 obtain ⟨k, hk⟩ := IxR_ex p vs.length
 have Hge := Lib.hid (IxR_ge hk)
 have HI := Lib.hid (index_rowCheck (cap := cap) hS hl hF hk)
 clear hS hF hk
 go_enter Tryz.func147, Tryz.ntmps147
 go_wp2_with fail
 refine HI.out.mono ?_
 rintro e W ⟨rfl, hE⟩
 go_wp2_with fail
 go_ret
 exact ⟨by rw [← Hge.out]; rfl, hE⟩
def grt (z : Int) : Bool := decide (1000000000 < z ∨ z < -1000000000)
theorem great_any (z : Int) (w : World) : Calls Tryz.prog 266 #[.int .i64 z] w fun e w' => e = .returned (.bool (grt z)) ∧ Ext w w' := by
 by_cases h1 : 1000000000 < z
 ·have hg : grt z = true := decide_eq_true (.inl h1)
  rw [hg]; clear hg
  go_enter Tryz.func266, Tryz.ntmps266
  go_wp2
  go_ret
  exact ⟨rfl, Ext.refl _⟩
 ·have h2 : z ≤ 1000000000 := by omega
  by_cases h3 : z < -1000000000
  ·have hg : grt z = true := decide_eq_true (.inr h3)
   rw [hg]; clear hg
   go_enter Tryz.func266, Tryz.ntmps266
   go_wp2
   go_ret
   exact ⟨rfl, Ext.refl _⟩
  ·have h4 : -1000000000 ≤ z := by omega
   have hg : grt z = false := decide_eq_false (by omega)
   rw [hg]; clear hg
   go_enter Tryz.func266, Tryz.ntmps266
   go_wp2
   go_ret
   exact ⟨rfl, Ext.refl _⟩
def chkR (c : Nat) (r : List Int) : Int := if 12 < r.length then 4 else if r.length ≠ c then 5 else if r.any grt then 4 else 0
def chk (c : Nat) : Mx → Int
 | [] => 0
 | r :: M => if chkR c r = 0 then chk c M else chkR c r
def checkM (M : Mx) : Int := if 12 < M.length then 4 else chk (M.getD 0 []).length M
theorem chk_at (c : Nat) : ∀ (M : Mx) (i : Nat) (h : i < M.length), (∀ j (hj : j < i), chkR c (M[j]'(by omega)) = 0) → chkR c M[i] ≠ 0 → chk c M = chkR c M[i]
 | [], _, h, _, _ => by simp at h
 | r :: M, 0, _, _, hne => by simp only [List.getElem_cons_zero] at hne ⊢; rw [chk, if_neg hne]
 | r :: M, i + 1, h, hz, hne => by
  rw [chk, if_pos (show chkR c r = 0 from hz 0 (by omega))]
  exact chk_at c M i (by simpa using h) (fun j hj => hz (j + 1) (by omega)) hne
theorem chk_all (c : Nat) : ∀ (M : Mx), (∀ j (hj : j < M.length), chkR c M[j] = 0) → chk c M = 0
 | [], _ => rfl
 | r :: M, hz => by
  rw [chk, if_pos (show chkR c r = 0 from hz 0 (by simp))]
  exact chk_all c M (fun j hj => hz (j + 1) (by simpa using hj))
theorem chk_ok {c : Nat} : ∀ {M : Mx}, chk c M = 0 → ∀ r ∈ M, chkR c r = 0
 | [], _, r, hr => by cases hr
 | r :: M, h, x, hx => by
  rw [chk] at h
  split at h
  ·rcases List.mem_cons.1 hx with rfl | hx
   ·assumption
   ·exact chk_ok h x hx
  ·exact absurd h ‹_›
theorem chkR_ok {c : Nat} {r : List Int} (h : chkR c r = 0) : r.length ≤ 12 ∧ r.length = c ∧ ∀ z ∈ r, -1000000000 ≤ z ∧ z ≤ 1000000000 := by
 unfold chkR at h
 split at h
 ·cases h
 ·split at h
  ·cases h
  ·split at h
   ·cases h
   ·rename_i h1 h2 h3
    refine ⟨by omega, by omega, fun z hz => ?_⟩
    have : grt z = false := by
     cases hg : grt z
     ·rfl
     ·exact absurd (List.any_eq_true.2 ⟨z, hz, hg⟩) h3
    unfold grt at this
    have := of_decide_eq_false this
    omega
def ncols (M : Mx) : Nat := (M.getD 0 []).length
theorem checkM_ok {M : Mx} (h : checkM M = 0) : M.length ≤ 12 ∧ ncols M ≤ 12 ∧ Rect (ncols M) M ∧ ∀ r ∈ M, ∀ z ∈ r, -1000000000 ≤ z ∧ z ≤ 1000000000 := by
 unfold checkM at h
 split at h
 ·cases h
 ·have hr := fun r hr => chkR_ok (chk_ok h r hr)
  refine ⟨by omega, ?_, fun r h' => (hr r h').2.1, fun r h' => (hr r h').2.2⟩
  cases M with
  | nil => simp [ncols]
  | cons r M => exact (hr r (by simp)).1
theorem any_grt (r : List Int) : anyB (fun i => grt (r.getD i 0)) r.length = r.any grt := by
 cases h : r.any grt
 ·refine anyB_no fun i hi => ?_
  rw [getD_get hi]
  cases hg : grt r[i]
  ·rfl
  ·rw [List.any_eq_true.2 ⟨_, List.getElem_mem hi, hg⟩] at h; cases h
 ·obtain ⟨z, hz, hg⟩ := List.any_eq_true.1 h
  obtain ⟨i, hi, rfl⟩ := List.getElem_of_mem hz
  exact anyB_iff.2 ⟨i, hi, by rw [getD_get hi]; exact hg⟩
set_option maxHeartbeats 1000000 in
theorem tableCheck_any {w : World} {v : Value} {M : Mx} (hM : MatR w v M) :
  Calls Tryz.prog 233 #[v] w fun e w' => e = .returned (.int .i64 (checkM M)) ∧ Ext w w' := by
 obtain ⟨sa, gb, go, cap, vs, rfl, hcap, hvl, hS, hr⟩ := hM
 by_cases hbig : 12 < M.length
 ·have hbi : (12 : Int) < (M.length : Int) := by omega
  have he : checkM M = 4 := by unfold checkM; rw [if_pos hbig]
  rw [he]
  clear he hS hr hvl
  go_enter Tryz.func233, Tryz.ntmps233
  go_wp2_with fail
  go_ret
  exact ⟨rfl, Ext.refl _⟩
 have he : checkM M = chk (M.getD 0 []).length M := by unfold checkM; rw [if_neg hbig]
 rw [he]
 have hml : M.length ≤ 12 := by omega
 have hmi : (M.length : Int) ≤ 12 := by omega
 have HS := Lib.hid hS
 have HV := Lib.hid hvl
 have HR := Lib.hid hr
 clear hS hvl hr he hbig
 go_enter Tryz.func233, Tryz.ntmps233
 go_wp2_with fail
 go_loopw [10] (fun idx wr => ∃ i : Nat, i ≤ M.length ∧ idx = .int .i64 i ∧ Hid (∀ j (h : j < M.length), j < i → chkR (M.getD 0 []).length M[j] = 0) ∧ Ext w wr) (fun idx _ => M.length - (intOf idx).toNat)
 case atStart => exact ⟨0, by omega, by go_num, Lib.hid (fun j _ h => by omega), Ext.refl _⟩
 case round =>
  obtain ⟨i, hi, rfl, Hz, hE⟩ := hrel
  generalize wr = X at *
  by_cases hlt : i < M.length
  ·have hii : (i : Int) < (M.length : Int) := by omega
   have hi0 : 0 < M.length := by omega
   obtain rfl := HS.out.addr (by rw [HV.out]; omega)
   obtain ⟨sr, br, or, cr, hrow, hrc, hSr⟩ := MatR.row HS.out HV.out HR.out hlt
   obtain ⟨s0, b0, o0, c0, hrow0, hrc0, hS0⟩ := MatR.row HS.out HV.out HR.out hi0
   have hrow' := hE.cell hrow
   have hrow0' := hE.cell hrow0
   rw [Nat.add_zero] at hrow0'
   obtain ⟨c, hc⟩ : ∃ c, c = (M.getD 0 []).length := ⟨_, rfl⟩
   have hc0 : M[0].length = c := by rw [hc, getD_get hi0]
   rw [hc0] at hrow0'
   obtain ⟨n, hn⟩ : ∃ n, n = M[i].length := ⟨_, rfl⟩
   rw [← hn] at hrow'
   have HC := Lib.hid hc
   have Hn := Lib.hid hn
   have hat : chkR c M[i] ≠ 0 → chk (M.getD 0 []).length M = chkR c M[i] := fun h => by
    rw [hc]
    exact chk_at _ M i hlt (fun j hj => Hz.out j (by omega) hj) (by rw [← hc]; exact h)
   have Hat := Lib.hid hat
   clear hrow hrow0 hrc0 hS0 hc hc0 hn hat
   by_cases h12 : 12 < n
   ·have h12i : (12 : Int) < (n : Int) := by omega
    have hch : chkR c M[i] = 4 := by unfold chkR; rw [← Hn.out, if_pos h12]
    have Hch := Lib.hid hch
    clear hch
    go_wp2_with fail
    go_ret
    exact ⟨by rw [Hat.out (by rw [Hch.out]; decide), Hch.out]; rfl, hE⟩
   ·have h12i : (n : Int) ≤ 12 := by omega
    have h12d : decide ((12 : Int) < (n : Int)) = false := decide_eq_false (by omega)
    by_cases hnc : n = c
    ·subst hnc
     have hgr := Lib.hid (contains_great (cap := cr) (p := fun k => grt (M[i].getD k 0)) (vs := is M[i]) (w := X) ((hSr.ext hE)) (by rw [is_length, ← Hn.out]; omega) (fun k hk W hW => by
      have hk' : k < M[i].length := by simpa using hk
      have e : (is M[i])[k] = .int .i64 M[i][k] := by simp [is]
      rw [e, getD_get hk']
      exact great_any M[i][k] W))
     rw [is_length, any_grt, ← Hn.out] at hgr
     cases hg : M[i].any grt
     ·rw [hg] at hgr
      have Hg := Lib.hid hg
      clear hg h12
      go_wp2_with fail
      refine hgr.out.mono ?_
      rintro e W ⟨rfl, hW⟩
      go_wp2_with fail
      go_roundw
      case rel => exact ⟨i + 1, by omega, by go_num, Lib.hid (fun j h hj => by
       by_cases e : j = i
       ·subst e; rw [← HC.out]; unfold chkR; rw [← Hn.out, if_neg (by omega), if_neg (by omega), Hg.out]; rfl
       ·exact Hz.out j h (by omega)), hE.trans hW⟩
      case measure => simp [intOf] <;> omega
     ·rw [hg] at hgr
      have hch : chkR n M[i] = 4 := by unfold chkR; rw [← Hn.out, if_neg (by omega), if_neg (by omega), hg]; rfl
      have Hch := Lib.hid hch
      clear hg h12 hch
      go_wp2_with fail
      refine hgr.out.mono ?_
      rintro e W ⟨rfl, hW⟩
      go_wp2_with fail
      go_ret
      exact ⟨by rw [Hat.out (by rw [Hch.out]; decide), Hch.out]; rfl, hE.trans hW⟩
    ·have hch : chkR c M[i] = 5 := by unfold chkR; rw [← Hn.out, if_neg h12, if_pos hnc]
     have Hch := Lib.hid hch
     have hnb : ((n : Int) == (c : Int)) = false := beq_eq_false_iff_ne.2 (by omega)
     have hnb2 : ((n : Int) != (c : Int)) = true := by simp [bne, hnb]
     have hnc' : ¬ (n : Int) = (c : Int) := by omega
     clear hch hnc h12
     go_wp2_with fail
     go_ret
     exact ⟨by rw [Hat.out (by rw [Hch.out]; decide), Hch.out]; rfl, hE⟩
  ·have Hch := Lib.hid (chk_all (M.getD 0 []).length M (fun j h => Hz.out j h (by omega)))
   go_wp2_with fail
   go_ret
   exact ⟨by rw [Hch.out]; rfl, hE⟩
theorem Tryz.infoInt : (Tryz.prog.info? 3).map (fun i => (i.zero, i.size, i.bytes)) = some (some (.int .i64 0), 1, 8) := by kernel_rfl
def smallB (l : List Int) : Bool := l.all fun z => !grt z
theorem smallB_iff {l : List Int} : smallB l = true ↔ ∀ z ∈ l, -1000000000 ≤ z ∧ z ≤ 1000000000 := by
 unfold smallB
 rw [List.all_eq_true]
 constructor
 ·intro h z hz
  have := h z hz
  unfold grt at this
  simp only [Bool.not_eq_true', decide_eq_false_iff_not] at this
  omega
 ·intro h z hz
  have := h z hz
  unfold grt
  simp only [Bool.not_eq_true', decide_eq_false_iff_not]
  omega
def RowO (B : Nat) (w : World) (v : Value) (r : List Int) : Prop := ∃ g cap, v = slv g r.length cap ∧ OwnV 3 B w g cap (is r)
theorem RowO.row {B : Nat} {w : World} {v : Value} {r : List Int} (h : RowO B w v r) : RowR w v r := by
 obtain ⟨g, cap, e, ho⟩ := h
 have := ho.cap
 rw [is_length] at this
 exact ⟨_, g, 0, cap, e, this, ho.sl⟩
theorem RowO.ext {B : Nat} {w w' : World} {v : Value} {r : List Int} (h : RowO B w v r) (he : Ext w w') : RowO B w' v r := by
 obtain ⟨g, cap, e, ho⟩ := h; exact ⟨g, cap, e, ho.ext he⟩
def SmlPost (w : World) (l : List Int) (e : Ending) (w' : World) : Prop :=
 (if smallB l then ∃ v, e = .returned (.tuple #[v, .int .i64 0]) ∧ RowO w.heap.size w' v l else e = .returned (.tuple #[.slice none 0 0, .int .i64 4])) ∧ Ext w w'
theorem small_not {l : List Int} {i : Nat} (h : i < l.length) (hg : grt l[i] = true) : smallB l = false := by
 cases hs : smallB l
 ·rfl
 ·have := smallB_iff.1 hs _ (List.getElem_mem h)
  unfold grt at hg
  have := of_decide_eq_true hg
  omega
theorem small_yes {l : List Int} (h : ∀ j (hj : j < l.length), grt l[j] = false) : smallB l = true := by
 refine smallB_iff.2 fun z hz => ?_
 obtain ⟨j, hj, rfl⟩ := List.getElem_of_mem hz
 have := h j hj
 unfold grt at this
 have := of_decide_eq_false this
 omega
theorem is_take_snoc {l : List Int} {i : Nat} (h : i < l.length) : is (l.take (i + 1)) = is (l.take i) ++ [.int .i64 l[i]] := by
 rw [List.take_succ_eq_append_getElem h]; simp only [is, List.map_append, List.map_cons, List.map_nil]
theorem Tryz.infoRow : (Tryz.prog.info? 46).map (fun i => (i.zero, i.size, i.bytes)) = some (some (.slice none 0 0), 1, 24) := by kernel_rfl
def RowV (B : Nat) (w : World) (v : Value) (r : List Int) : Prop := w.ownsRow B 3 1 v r.length (is r)
theorem RowV.nil (B : Nat) (w : World) : RowV B w (.slice none 0 0) [] := ⟨rfl, .inl ⟨rfl, rfl⟩⟩
theorem RowV.ext {B : Nat} {w w' : World} {v : Value} {r : List Int} (h : RowV B w v r) (he : Ext w w') : RowV B w' v r := ownsRow_ext h he
theorem ownsRow_mono {w : World} {B B' : Nat} {e : TypeId} {size n : Nat} {v : Value} {xs : List Value} (h : w.ownsRow B e size v n xs) (hB : B' ≤ B) : w.ownsRow B' e size v n xs := by
 refine ⟨h.1, ?_⟩
 rcases h.2 with h' | ⟨g', cap', cur, h', hB', r⟩
 ·exact .inl h'
 ·exact .inr ⟨g', cap', cur, h', by omega, r⟩
theorem RowV.mono {B B' : Nat} {w : World} {v : Value} {r : List Int} (h : RowV B w v r) (hB : B' ≤ B) : RowV B' w v r := ownsRow_mono h hB
theorem RowO.v {B : Nat} {w : World} {v : Value} {r : List Int} (h : RowO B w v r) : RowV B w v r := by
 obtain ⟨g, cap, rfl, ho⟩ := h
 unfold RowV; have := ho; unfold OwnV at this; rw [is_length] at this; exact this
theorem RowV.row {B : Nat} {w : World} {v : Value} {r : List Int} (h : RowV B w v r) : RowR w v r := by
 rcases h.2 with ⟨rfl, h0⟩ | ⟨g, cap, cur, rfl, hb, hg, hn, hm, hs, ht⟩
 ·have : r = [] := by cases r with
   | nil => rfl
   | cons => simp at h0
  subst this
  exact ⟨none, 0, 0, 0, rfl, Nat.le_refl _, Sl.nil _ _ _ _⟩
 ·have ho : OwnV 3 B w g cap (is r) := by unfold OwnV; rw [is_length]; exact h
  exact ⟨_, g, 0, cap, rfl, hn, ho.sl⟩
theorem own_ne {B B' : Nat} {w : World} {T T' : TypeId} {size size' n n' : Nat} {u v : Value} {xs ys : List Value} (h : w.ownsRow B T size u n xs) (h' : w.ownsRow B' T' size' v n' ys) (hT : T ≠ T') {g : Nat} (hg : u.ownBlock = some g) : v.ownBlock ≠ some g := by
 intro e
 rcases h.2 with ⟨rfl, _⟩ | ⟨g1, cap, cur, rfl, _, hg1, _⟩
 ·cases hg
 ·rcases h'.2 with ⟨rfl, _⟩ | ⟨g2, cap2, cur2, rfl, _, hg2, _⟩
  ·cases e
  ·injection hg with hg; injection e with e
   subst hg; subst e
   rw [hg1] at hg2
   injection hg2 with hg2
   injection hg2 with _ h3
   exact hT h3
theorem own_kept {B B' : Nat} {w w' : World} {T T' : TypeId} {size size' n n' : Nat} {u v : Value} {xs ys : List Value} (h : w.ownsRow B T size u n xs) (h' : w.ownsRow B' T' size' v n' ys) (hT : T ≠ T') (hg : w.grownBy w' v.ownBlock) : w'.ownsRow B T size u n xs := by
 refine World.ownsRow.kept h hg ?_
 cases hu : u.ownBlock with
 | none => exact .inl rfl
 | some g => exact .inr (fun e => own_ne h h' hT hu e.symm)
theorem is_snoc (r : List Int) (z : Int) : is (r ++ [z]) = is r ++ [.int .i64 z] := by simp only [is, List.map_append, List.map_cons, List.map_nil]
section
variable {w : World} {ops : Array Oper} {rest : List Oper} {o : Oper} {a : Act} {Q : Exit → Act → World → Prop}
theorem app_int (hgd : o.guard = none) (s x : Operand) (t : TypeId) (ht : Tryz.prog.underlying t = some (.slice 3)) (ho : o.op = .call { callee := .builtin .append, args := #[s, x], argTypes := #[t, t] })
  {B : Nat} {v : Value} {r : List Int} (hs : a.eval s = v) (hown : RowV B w v r) {b : Nat} {z : Int} (hx : a.eval x = .slice (some ⟨b, 0, none⟩) 1 1) (hc : w.cell? ⟨b, 0, none⟩ = some (.int .i64 z)) (hl : r.length ≤ 1000000000) (hB : B ≤ w.heap.size)
  (h : ∀ g cap w', RowV B w' (slv g (r.length + 1) cap) (r ++ [z]) → Below B w w' → w.grownBy w' v.ownBlock → wpList Tryz.prog ops Q rest (a.put o.dst (slv g (r.length + 1) cap)) w') : wpList Tryz.prog ops Q (o :: rest) a w := by
 obtain ⟨i0, hi, hz0, hz1, hz2⟩ := info_parts Tryz.infoInt
 refine wpList_append_lies w hgd s x t ho B 3 i0 _ 1 8 ht hi hz0 hz1 hz2 rfl (by omega) v r.length (is r) hs hown ⟨b, 0, none⟩ 1 1 [.int .i64 z] hx rfl ?_ (one_int _ _) (by omega) (by unfold maxLen; omega) (by omega) hB w.heap.size rfl ?_
 ·intro j u hj
  have : j = 0 := by have := (List.getElem?_eq_some_iff.1 hj).1; simp at this; omega
  subst this
  simp only [List.getElem?_cons_zero, Option.some.injEq] at hj
  subst hj
  simpa [Addr.add_lit] using hc
 ·intro g cap w' h1 h2 h3 h4
  refine h g cap w' ?_ (Below.grown (Below.refl _ _) h2 hB (fun q hq => (World.ownsRow.lt hown q hq).1)) h2
  unfold RowV
  rw [is_snoc, List.length_append]; exact h1
def MatO (B : Nat) (w : World) (v : Value) (F : Mx) : Prop := ∃ vs, vs.length = F.length ∧ w.ownsRow B 46 1 v F.length vs ∧ ∀ t (_ : t < F.length) (h' : t < vs.length), RowV B w vs[t] F[t]
theorem MatO.nil (B : Nat) (w : World) : MatO B w (.slice none 0 0) [] := ⟨[], rfl, ⟨rfl, .inl ⟨rfl, rfl⟩⟩, fun t h => by simp at h⟩
theorem MatO.ext {B : Nat} {w w' : World} {v : Value} {F : Mx} (h : MatO B w v F) (he : Ext w w') : MatO B w' v F := by
 obtain ⟨vs, h1, h2, h3⟩ := h
 exact ⟨vs, h1, ownsRow_ext h2 he, fun t a b => (h3 t a b).ext he⟩
theorem MatO.mono {B B' : Nat} {w : World} {v : Value} {F : Mx} (h : MatO B w v F) (hB : B' ≤ B) : MatO B' w v F := by
 obtain ⟨vs, h1, h2, h3⟩ := h
 exact ⟨vs, h1, ownsRow_mono h2 hB, fun t a b => (h3 t a b).mono hB⟩
theorem MatO.mat {B : Nat} {w : World} {v : Value} {F : Mx} (h : MatO B w v F) : MatR w v F := by
 obtain ⟨vs, h1, h2, h3⟩ := h
 have hr : ∀ i (h : i < F.length) (h' : i < vs.length), RowR w vs[i] F[i] := fun i a b => (h3 i a b).row
 rcases h2.2 with ⟨rfl, h0⟩ | ⟨g, cap, cur, rfl, hb, hg, hn, hm, hs, ht⟩
 ·have : F = [] := List.eq_nil_of_length_eq_zero h0
  subst this
  have hv : vs = [] := List.eq_nil_of_length_eq_zero h1
  subst hv
  exact ⟨none, 0, 0, 0, [], rfl, Nat.le_refl _, rfl, Sl.nil _ _ _ _, hr⟩
 ·have ho : OwnV 46 B w g cap vs := by unfold OwnV; rw [h1]; exact h2
  exact ⟨_, g, 0, cap, vs, rfl, hn, h1, ho.sl, hr⟩
theorem RowV.one {B : Nat} {w : World} {v : Value} {r : List Int} (h : RowV B w v r) : v.oneCell' = true := by
 rcases h.2 with ⟨rfl, _⟩ | ⟨g, cap, cur, rfl, _⟩ <;> rfl
theorem app_mat (hgd : o.guard = none) (s x : Operand) (ho : o.op = .call { callee := .builtin .append, args := #[s, x], argTypes := #[39, 39] })
  {B : Nat} {v rv : Value} {F : Mx} {r : List Int} (hs : a.eval s = v) (hown : MatO B w v F) {b : Nat} (hx : a.eval x = .slice (some ⟨b, 0, none⟩) 1 1) (hc : w.cell? ⟨b, 0, none⟩ = some rv) (hr : RowV B w rv r) (hl : F.length ≤ 1000000000) (hB : B ≤ w.heap.size)
  (h : ∀ g cap w', MatO B w' (slv g (F.length + 1) cap) (F ++ [r]) → Below B w w' → w.grownBy w' v.ownBlock → wpList Tryz.prog ops Q rest (a.put o.dst (slv g (F.length + 1) cap)) w') : wpList Tryz.prog ops Q (o :: rest) a w := by
 obtain ⟨i0, hi, hz0, hz1, hz2⟩ := info_parts Tryz.infoRow
 obtain ⟨vs, h1, h2, h3⟩ := hown
 refine wpList_append_lies w hgd s x 39 ho B 46 i0 _ 1 24 Tryz.underlying39 hi hz0 hz1 hz2 rfl (by omega) v F.length vs hs h2 ⟨b, 0, none⟩ 1 1 [rv] hx rfl ?_ ?_ (by omega) (by unfold maxLen; omega) (by omega) hB w.heap.size rfl ?_
 ·intro j u hj
  have : j = 0 := by have := (List.getElem?_eq_some_iff.1 hj).1; simp at this; omega
  subst this
  simp only [List.getElem?_cons_zero, Option.some.injEq] at hj
  subst hj
  simpa [Addr.add_lit] using hc
 ·intro u hu
  simp only [List.mem_cons, List.not_mem_nil, or_false] at hu
  subst hu; exact hr.one
 ·intro g cap w' k1 k2 k3 k4
  have hkeep : ∀ {u : Value} {l : List Int}, RowV B w u l → RowV B w' u l := fun hu => own_kept hu h2 (by decide) k2
  refine h g cap w' ⟨vs ++ [rv], by simp [h1], ?_, fun t ht ht' => ?_⟩ (Below.grown (Below.refl _ _) k2 hB (fun q hq => (World.ownsRow.lt h2 q hq).1)) k2
  ·rw [List.length_append]; exact k1
  ·rcases Nat.lt_or_ge t F.length with hlt | hge
   ·rw [List.getElem_append_left (by omega), List.getElem_append_left hlt]
    exact hkeep (h3 t hlt (by omega))
   ·have hte : t = F.length := by simp at ht; omega
    subst hte
    rw [List.getElem_append_right (by omega), List.getElem_append_right (by omega)]
    simp only [h1, Nat.sub_self, List.getElem_cons_zero]
    exact hkeep hr
end
theorem sam_getD_ext {a b : List Int} (hl : a.length = b.length) (h : ∀ j, j < a.length → a.getD j 0 = b.getD j 0) : a = b := by
 apply List.ext_getElem hl
 intro i h1 h2
 have := h i h1
 rwa [getD_get h1, getD_get h2] at this
set_option maxHeartbeats 1000000 in
theorem SlEq_any {w : World} {va vb : Value} {a b : List Int} (hA : RowR w va a) (hB : RowR w vb b) (hbig : a.length ≤ 1000000) :
  Calls Tryz.prog 184 #[va, vb] w fun e w' => e = .returned (.bool (decide (a = b))) ∧ Ext w w' := by
 obtain ⟨sa, ga, oa, ca, rfl, hca, hSa⟩ := hA
 obtain ⟨sb, gb, ob, cb, rfl, hcb, hSb⟩ := hB
 by_cases hl : a.length = b.length
 ·obtain ⟨n, hn⟩ : ∃ n, n = a.length := ⟨_, rfl⟩
  rw [← hl]
  rw [← hn] at hbig ⊢
  have HA := Lib.hid hSa
  have HB := Lib.hid hSb
  have Hn := Lib.hid hn
  have Hm := Lib.hid (hn.trans hl)
  clear hSa hSb hl hn hca hcb
  go_enter Tryz.func184, Tryz.ntmps184
  go_wp2_with fail
  go_loopw [13] (fun idx wr => ∃ i : Nat, i ≤ n ∧ idx = .int .i64 i ∧ Hid (∀ j, j < i → a.getD j 0 = b.getD j 0) ∧ Ext w wr) (fun idx _ => n - (intOf idx).toNat)
  case atStart => exact ⟨0, by omega, by go_num, Lib.hid (fun j h => by omega), Ext.refl _⟩
  case round =>
   obtain ⟨i, hi, rfl, Hz, hE⟩ := hrel
   generalize wr = X at *
   by_cases hlt : i < n
   ·have hii : (i : Int) < (n : Int) := by omega
    have c1 := (HA.out.ext hE).cell i (.int .i64 (a[i]'(by rw [← Hn.out]; exact hlt))) (is_get (by rw [← Hn.out]; exact hlt))
    have c2 := (HB.out.ext hE).cell i (.int .i64 (b[i]'(by rw [← Hm.out]; exact hlt))) (is_get (by rw [← Hm.out]; exact hlt))
    obtain rfl := HA.out.addr (by rw [is_length, ← Hn.out]; omega)
    obtain rfl := HB.out.addr (by rw [is_length, ← Hm.out]; omega)
    obtain ⟨x, hx⟩ : ∃ x, x = a[i]'(by rw [← Hn.out]; exact hlt) := ⟨_, rfl⟩
    obtain ⟨y, hy⟩ : ∃ y, y = b[i]'(by rw [← Hm.out]; exact hlt) := ⟨_, rfl⟩
    rw [← hx] at c1
    rw [← hy] at c2
    have Hx := Lib.hid (show a.getD i 0 = x by rw [hx, getD_get (by rw [← Hn.out]; exact hlt)])
    have Hy := Lib.hid (show b.getD i 0 = y by rw [hy, getD_get (by rw [← Hm.out]; exact hlt)])
    clear hx hy
    by_cases hxy : x = y
    ·subst hxy
     go_wp2_with fail
     go_quiet (fail)
     go_wp2_with fail
     go_roundw
     case rel => exact ⟨i + 1, by omega, by go_num, Lib.hid (fun j hj => by
      by_cases e : j = i
      ·subst e; rw [Hx.out, Hy.out]
      ·exact Hz.out j (by omega)), hE.drewN _⟩
     case measure => simp [intOf] <;> omega
    ·have hb1 : (x == y) = false := beq_eq_false_iff_ne.2 hxy
     have hb2 : (x != y) = true := by simp [bne, hb1]
     have Hne := Lib.hid (show decide (a = b) = false from decide_eq_false (fun e => hxy (by rw [← Hx.out, ← Hy.out, e])))
     go_wp2_with fail
     go_quiet (fail)
     go_wp2_with fail
     go_ret
     exact ⟨by rw [Hne.out]; rfl, hE.drewN _⟩
   ·have Heq := Lib.hid (show decide (a = b) = true from decide_eq_true (sam_getD_ext (by rw [← Hn.out, ← Hm.out]) (fun j hj => Hz.out j (by rw [← Hn.out] at hj; omega))))
    go_wp2_with fail
    go_ret
    exact ⟨by rw [Heq.out]; rfl, hE⟩
 ·have hne : decide (a = b) = false := decide_eq_false (fun e => hl (by rw [e]))
  rw [hne]
  have h1 : ¬ ((a.length : Int) = (b.length : Int)) := by omega
  have h2 : ((a.length : Int) == (b.length : Int)) = false := beq_eq_false_iff_ne.2 h1
  have h3 : ((a.length : Int) != (b.length : Int)) = true := by simp [bne, h2]
  clear hSa hSb hca hcb hne
  generalize a.length = n at *
  generalize b.length = m at *
  go_enter Tryz.func184, Tryz.ntmps184
  go_wp2_with fail
  go_ret
  exact ⟨rfl, Ext.refl _⟩
theorem rowEqual_any {w : World} {va vb : Value} {a b : List Int} (hA : RowR w va a) (hB : RowR w vb b) (hbig : a.length ≤ 1000000) :
  Calls Tryz.prog 192 #[va, vb] w fun e w' => e = .returned (.bool (decide (a = b))) ∧ Ext w w' := by
 have h := Lib.hid (SlEq_any hA hB hbig)
 clear hA hB
 go_enter Tryz.func192, Tryz.ntmps192
 go_wp2_with fail
 refine h.out.mono ?_
 rintro e w1 ⟨rfl, hE⟩
 go_wp2_with fail
 go_ret
 exact ⟨rfl, hE⟩
def IntsV (B : Nat) (w : World) (v : Value) (l : List Int) : Prop := w.ownsRow B 61 1 v l.length (ss l)
theorem IntsV.nil (B : Nat) (w : World) : IntsV B w (.slice none 0 0) [] := ⟨rfl, .inl ⟨rfl, rfl⟩⟩
theorem IntsV.ext {B : Nat} {w w' : World} {v : Value} {l : List Int} (h : IntsV B w v l) (he : Ext w w') : IntsV B w' v l := ownsRow_ext h he
theorem IntsV.mono {B B' : Nat} {w : World} {v : Value} {l : List Int} (h : IntsV B w v l) (hB : B' ≤ B) : IntsV B' w v l := ownsRow_mono h hB
theorem IntsV.sl {B : Nat} {w : World} {v : Value} {l : List Int} (h : IntsV B w v l) : ∃ ga gb cap, v = .slice ga l.length cap ∧ l.length ≤ cap ∧ Sl w ga gb 0 (ss l) := by
 rcases h.2 with ⟨rfl, h0⟩ | ⟨g, cap, cur, rfl, hb, hg, hn, hm, hs, ht⟩
 ·have : l = [] := List.eq_nil_of_length_eq_zero h0
  subst this
  exact ⟨none, 0, 0, rfl, Nat.le_refl _, Sl.nil _ _ _ _⟩
 ·have ho : OwnV 61 B w g cap (ss l) := by unfold OwnV; rw [ss_length]; exact h
  exact ⟨_, g, cap, rfl, hn, ho.sl⟩
theorem ss_snoc (l : List Int) (z : Int) : ss (l ++ [z]) = ss l ++ [I z] := by simp only [ss, List.map_append, List.map_cons, List.map_nil]
theorem OwnV.ints {B : Nat} {w : World} {g cap : Nat} {l : List Int} (h : OwnV 61 B w g cap (ss l)) : IntsV B w (slv g l.length cap) l := by
 unfold IntsV; unfold OwnV at h; rw [ss_length] at h; exact h
section
variable {w : World} {ops : Array Oper} {rest : List Oper} {o : Oper} {a : Act} {Q : Exit → Act → World → Prop}
theorem app_ints (hgd : o.guard = none) (s x : Operand) (ho : o.op = .call { callee := .builtin .append, args := #[s, x], argTypes := #[120, 120] })
  {B : Nat} {v : Value} {r : List Int} (hs : a.eval s = v) (hown : IntsV B w v r) {b : Nat} {z : Int} (hx : a.eval x = .slice (some ⟨b, 0, none⟩) 1 1) (hc : w.cell? ⟨b, 0, none⟩ = some (I z)) (hl : r.length ≤ 1000000000) (hB : B ≤ w.heap.size)
  (h : ∀ g cap w', IntsV B w' (slv g (r.length + 1) cap) (r ++ [z]) → Below B w w' → w.grownBy w' v.ownBlock → wpList Tryz.prog ops Q rest (a.put o.dst (slv g (r.length + 1) cap)) w') : wpList Tryz.prog ops Q (o :: rest) a w := by
 obtain ⟨i0, hi, hz0, hz1, hz2⟩ := info_parts Tryz.infoStr
 refine wpList_append_lies w hgd s x 120 ho B 61 i0 _ 1 16 Tryz.underlying120 hi hz0 hz1 hz2 rfl (by omega) v r.length (ss r) hs hown ⟨b, 0, none⟩ 1 1 [I z] hx rfl ?_ (one_str _) (by omega) (by unfold maxLen; omega) (by omega) hB w.heap.size rfl ?_
 ·intro j u hj
  have : j = 0 := by have := (List.getElem?_eq_some_iff.1 hj).1; simp at this; omega
  subst this
  simp only [List.getElem?_cons_zero, Option.some.injEq] at hj
  subst hj
  simpa [Addr.add_lit] using hc
 ·intro g cap w' h1 h2 h3 h4
  refine h g cap w' ?_ (Below.grown (Below.refl _ _) h2 hB (fun q hq => (World.ownsRow.lt hown q hq).1)) h2
  unfold IntsV
  rw [ss_snoc, List.length_append]; exact h1
end
end Go.Proofs.YtedlgnoiojcjaaaGreatDoor
namespace Go.Proofs.YtedlgnoiojcjaaaGreatDoor
def pv (r : List Int) : Nat := r.findIdx fun z => decide (z ≠ 0)
def pvI (r : List Int) : Int := if pv r < r.length then (pv r : Int) else -1
theorem pv_le (r : List Int) : pv r ≤ r.length := List.findIdx_le_length
theorem pv_zero {r : List Int} {j : Nat} (h : j < pv r) : r.getD j 0 = 0 := by
 have hl : j < r.length := Nat.lt_of_lt_of_le h (pv_le r)
 have := List.not_of_lt_findIdx (p := fun z : Int => decide (z ≠ 0)) (xs := r) h
 rw [getD_get hl]
 simpa using this
theorem pv_ne {r : List Int} (h : pv r < r.length) : r.getD (pv r) 0 ≠ 0 := by
 have := List.findIdx_getElem (xs := r) (p := fun z : Int => decide (z ≠ 0)) (w := h)
 rw [getD_get h]
 simpa [pv] using this
theorem pvI_ix (r : List Int) : IxR (fun i => decide (r.getD i 0 ≠ 0)) r.length (pvI r) := by
 unfold pvI
 by_cases h : pv r < r.length
 ·rw [if_pos h]
  exact .inr ⟨pv r, h, rfl, decide_eq_true (pv_ne h), fun j hj => decide_eq_false (by simpa using pv_zero hj)⟩
 ·rw [if_neg h]
  exact .inl ⟨rfl, fun i hi => decide_eq_false (by simpa using pv_zero (by omega))⟩
theorem pv_of {r : List Int} {p : Nat} (hp : r.getD p 0 ≠ 0) (hz : ∀ j, j < p → r.getD j 0 = 0) : pv r = p ∧ p < r.length := by
 have hl : p < r.length := by
  rcases Nat.lt_or_ge p r.length with h | h
  ·exact h
  ·rw [List.getD_eq_getElem?_getD, List.getElem?_eq_none h] at hp; exact absurd rfl hp
 refine ⟨?_, hl⟩
 rcases Nat.lt_trichotomy (pv r) p with h | h | h
 ·exact absurd (hz _ h) (pv_ne (by omega))
 ·exact h
 ·exact absurd (pv_zero h) hp
theorem getD_map {α β : Type} (f : α → β) (l : List α) (i : Nat) (h : i < l.length) (d : β) (e : α) : (l.map f).getD i d = f (l.getD i e) := by
 rw [getD_get (by simpa using h), getD_get h]; simp
theorem isH_pv {n : Nat} {ps : List Nat} {M : Mx} (h : IsH n ps M) : ps = M.map pv := by
 refine List.ext_getElem (by rw [h.len]; simp) fun i h1 h2 => ?_
 have hi : i < M.length := by simpa using h2
 have hp := h.pos i hi
 have hl := h.left i hi
 rw [getD_get h1] at hp hl
 have := (pv_of (r := M.getD i []) (p := ps[i]) (by show eM M i ps[i] ≠ 0; omega) (fun j hj => hl j hj)).1
 rw [List.getElem_map, ← this, getD_get hi]
theorem take_snocM {F : Mx} {i : Nat} (h : i < F.length) : F.take (i + 1) = F.take i ++ [F[i]] := List.take_succ_eq_append_getElem h
end Go.Proofs.YtedlgnoiojcjaaaGreatDoor
namespace Go.Proofs.YtedlgnoiojcjaaaGreatDoor
open Go.RowKit Go.Sort
open Hnf (V Span Ech Red)
theorem fRows_get {d : Nat} {ls : List Ln} {i : Nat} (hi : i < d) (hd : d ≤ ls.length) (h : i < (fRows d ls).length) : (fRows d ls)[i] = (ls.getD i default).1 := by
 simp only [fRows, List.getElem_map, List.getElem_take, getD_get (show i < ls.length by omega)]
theorem fRows_length {d : Nat} {ls : List Ln} (hd : d ≤ ls.length) : (fRows d ls).length = d := by unfold fRows; simp; omega
theorem Sl.ext' {w w' : World} {ga : Option Addr} {gb go : Nat} {xs : List Value} (h : Sl w ga gb go xs) (he : Ext w w') : Sl w' ga gb go xs := h.ext he
end Go.Proofs.YtedlgnoiojcjaaaGreatDoor
namespace Go.Proofs.YtedlgnoiojcjaaaGreatDoor
open Go.RowKit Go.Sort
def hdX (n : Nat) (ad : List (Nat × Nat)) : List Value := ad.map fun a => slv a.1 n a.2
@[simp] theorem hdX_length (n : Nat) (ad : List (Nat × Nat)) : (hdX n ad).length = ad.length := by simp [hdX]
structure MatX (B : Nat) (w : World) (v : Value) (n : Nat) (F : Mx) (ad : List (Nat × Nat)) : Prop where
 len : ad.length = F.length
 rect : Rect n F
 own : w.ownsRow B 46 1 v F.length (hdX n ad)
 row : ∀ i (h : i < F.length) (h' : i < ad.length), OwnV 3 B w ad[i].1 ad[i].2 (is F[i])
 dis : ∀ i j (hi : i < ad.length) (hj : j < ad.length), i < j → ad[i].1 ≠ ad[j].1
theorem MatX.nil (B : Nat) (w : World) (n : Nat) : MatX B w (.slice none 0 0) n [] [] :=
 ⟨rfl, (fun r h => by cases h), ⟨rfl, .inl ⟨rfl, rfl⟩⟩, (fun i h => by simp at h), (fun i j h => by simp at h)⟩
theorem MatX.ext {B : Nat} {w w' : World} {v : Value} {n : Nat} {F : Mx} {ad : List (Nat × Nat)} (h : MatX B w v n F ad) (he : Ext w w') : MatX B w' v n F ad :=
 ⟨h.len, h.rect, ownsRow_ext h.own he, fun i a b => (h.row i a b).ext he, h.dis⟩
theorem ownV_row {B : Nat} {w : World} {g cap n : Nat} {r : List Int} (h : OwnV 3 B w g cap (is r)) (hn : r.length = n) : RowV B w (slv g n cap) r := by
 subst hn
 unfold RowV
 unfold OwnV at h
 rw [is_length] at h
 exact h
theorem row_ownV {B : Nat} {w : World} {g cap n : Nat} {r : List Int} (h : RowV B w (slv g n cap) r) (hn : r.length = n) : OwnV 3 B w g cap (is r) := by
 subst hn
 unfold RowV at h
 unfold OwnV
 rw [is_length]
 exact h
theorem MatX.lt {B : Nat} {w : World} {v : Value} {n : Nat} {F : Mx} {ad : List (Nat × Nat)} (h : MatX B w v n F ad) : ∀ a ∈ ad, a.1 < w.heap.size := by
 intro a ha
 obtain ⟨i, hi, rfl⟩ := List.getElem_of_mem ha
 exact (h.row i (by rw [← h.len]; exact hi) hi).lt.2
theorem zero_row {B n g : Nat} {w : World} (h : w.ownsRow B 3 1 (.slice (some ⟨g, 0, none⟩) n n) n (madeCells (Value.int .i64 0).cells (n * 1)).toList) : RowV B w (.slice (some ⟨g, 0, none⟩) n n) (List.replicate n 0) := by
 unfold RowV
 have e : (madeCells (Value.int .i64 0).cells (n * 1)).toList = is (List.replicate n 0) := by
  rw [show (Value.int .i64 0).cells = #[.int .i64 0] from rfl, toList_madeCells_one, Nat.mul_one]; simp [is]
 rw [List.length_replicate, ← e]
 exact h
section
variable {w : World} {ops : Array Oper} {rest : List Oper} {o : Oper} {a : Act} {Q : Exit → Act → World → Prop}
end
theorem MatX.two {B : Nat} {w w' : World} {g cap n : Nat} {a b a' b' : List Int} {rest : Mx} {ad : List (Nat × Nat)} {a0 a1 : Nat × Nat} (h : MatX B w (slv g (rest.length + 2) cap) n (a :: b :: rest) (a0 :: a1 :: ad))
  (hC : Chg (fun k => k = a0.1 ∨ k = a1.1) w w') (h0 : OwnV 3 B w' a0.1 a0.2 (is a')) (h1 : OwnV 3 B w' a1.1 a1.2 (is b')) (l0 : a'.length = n) (l1 : b'.length = n) : MatX B w' (slv g (rest.length + 2) cap) n (a' :: b' :: rest) (a0 :: a1 :: ad) := by
 have hg0 : g ≠ a0.1 := fun e => by
  have := own_ne (ownV_row (n := n) (h.row 0 (by simp) (by simp)) (h.rect a (by simp))) h.own (by decide) (g := a0.1) rfl
  exact this (by rw [e]; rfl)
 have hg1 : g ≠ a1.1 := fun e => by
  have := own_ne (ownV_row (n := n) (h.row 1 (by simp) (by simp)) (h.rect b (by simp))) h.own (by decide) (g := a1.1) rfl
  exact this (by rw [e]; rfl)
 have hOw : OwnV 46 B w g cap (hdX n (a0 :: a1 :: ad)) := by
  unfold OwnV
  have hl := h.len
  rw [hdX_length, hl]; exact h.own
 have hOw' := hC.own (fun hk => by rcases hk with hk | hk; exact hg0 hk; exact hg1 hk) hOw
 refine ⟨h.len, fun r hr => ?_, ?_, fun i hi hi' => ?_, h.dis⟩
 ·simp only [List.mem_cons] at hr
  rcases hr with rfl | rfl | hr
  ·exact l0
  ·exact l1
  ·exact h.rect r (by simp [hr])
 ·unfold OwnV at hOw'
  have hl := h.len
  simp only [List.length_cons] at hl ⊢
  rw [hdX_length] at hOw'
  simp only [List.length_cons, hl] at hOw'
  exact hOw'
 ·match i, hi, hi' with
  | 0, _, _ => exact h0
  | 1, _, _ => exact h1
  | i + 2, hi, hi' =>
   have d0 := h.dis 0 (i + 2) (by simp) hi' (by omega)
   have d1 := h.dis 1 (i + 2) (by simp) hi' (by omega)
   simp only [List.length_cons] at hi
   have := h.row (i + 2) (by simp; omega) hi'
   exact hC.own (fun hk => by rcases hk with hk | hk; exact d0 hk.symm; exact d1 hk.symm) this
end Go.Proofs.YtedlgnoiojcjaaaGreatDoor
