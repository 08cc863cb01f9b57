/- Part 18 of the proof of the claim: contracts of the functions that it reaches, and plain laws; no condition. -/
import Derived.Test.YthmhmkkcjlgbjaaGreatDoorV17
/- hermite: includes, pair, Includes (of what is right) -/
namespace Go.Proofs.YthmhmkkcjlgbjaaGreatDoor
open Go.RowKit Go.Sort
theorem includesC_any {w : World} {vf vx : Value} {F : Mx} {x : List Int} {b : Nat} (hF : MatR w vf F) (hx : RowR w vx x) (ho : openE F x = 0) (hL : Laid w) (hb : w.cell? ⟨b, 0, none⟩ = some vf) :
    Calls Tryz.prog 87 #[vx, .pointer (some ⟨b, 0, none⟩)] w fun e w' => e = .returned (.bool (!inB F x)) ∧ Ext w w' := by
  have hcn := Lib.hid (contains_any hF hx ho hL)
  obtain ⟨sa, gb, go, cap, vs, rfl, _⟩ := hF
  clear hx ho hL
  go_enter Tryz.func87, Tryz.ntmps87
  go_wp2_with fail
  refine hcn.out.mono ?_
  rintro e w1 ⟨v, rfl, _, hE1⟩
  go_wp2_with fail
  go_ret
  exact ⟨by simp, hE1⟩
def inclB (F S : Mx) : Bool := !(anyB (fun i => !inB F (S.getD i [])) S.length)
theorem inclB_iff {F S : Mx} : inclB F S = true ↔ ∀ x ∈ S, inB F x = true := by
  unfold inclB
  rw [Bool.not_eq_true', ← Bool.not_eq_true, anyB_iff]
  constructor
  · intro h x hx
    obtain ⟨i, hi, rfl⟩ := List.getElem_of_mem hx
    cases hb : inB F S[i]
    · exact absurd ⟨i, hi, by rw [getD_get hi, hb]; rfl⟩ h
    · rfl
  · rintro h ⟨i, hi, hd⟩
    rw [getD_get hi, h _ (List.getElem_mem hi)] at hd
    cases hd
/-- The first error of a form with another matrix. -/
def pairE (F S : Mx) : Int :=
  if checkM F = 0 then if checkM S = 0 then if isF F then if 0 < F.length ∧ 0 < S.length ∧ ncols F ≠ ncols S then 5 else 0 else 7 else checkM S else checkM F
theorem pairE_ok {F S : Mx} (h : pairE F S = 0) : checkM F = 0 ∧ checkM S = 0 ∧ isF F = true ∧ (0 < F.length → 0 < S.length → ncols S = ncols F) := by
  unfold pairE at h
  split at h
  · split at h
    · split at h
      · split at h
        · cases h
        · rename_i h1 h2 h3 h4
          exact ⟨h1, h2, h3, fun h5 h6 => Classical.byContradiction fun h7 => h4 ⟨h5, h6, fun e => h7 e.symm⟩⟩
      · cases h
    · exact absurd h ‹_›
  · exact absurd h ‹_›
theorem pair_open {F S : Mx} (h : pairE F S = 0) {x : List Int} (hx : x ∈ S) : openE F x = 0 := by
  obtain ⟨h1, h2, h3, h4⟩ := pairE_ok h
  obtain ⟨_, hn, hr, he⟩ := checkM_ok h2
  have hS : 0 < S.length := List.length_pos_of_mem hx
  have hc : chkRow x = 0 := by
    unfold chkRow
    rw [if_neg (by rw [hr x hx]; omega), if_neg]
    rw [List.any_eq_true]
    rintro ⟨z, hz, hg⟩
    have := he x hx z hz
    unfold grt at hg
    have := of_decide_eq_true hg
    omega
  unfold openE
  rw [if_pos h1, h3, if_pos rfl, if_pos hc, if_neg]
  rintro ⟨h5, h6⟩
  exact h6 (by rw [hr x hx]; exact h4 h5 hS)
set_option maxRecDepth 100000 in
set_option maxHeartbeats 1000000 in
theorem includes_any {w : World} {vf vs : Value} {F S : Mx} (hF : MatR w vf F) (hS : MatR w vs S) (hp : pairE F S = 0) (hL : Laid w) :
    Calls Tryz.prog 51 #[vf, vs] w fun e w' => e = .returned (.bool (inclB F S)) ∧ Ext w w' := by
  obtain ⟨_, h2, _, _⟩ := pairE_ok hp
  have hs12 := (checkM_ok h2).1
  have HF := Lib.hid hF
  obtain ⟨sf, bf, of, cf, us, rfl, _⟩ := hF
  obtain ⟨sa, gb, go, cap, vs, rfl, hcap, hvl, hSl, hr⟩ := hS
  have hW := (Ext.refl w).alloc (.cells #[.slice sf F.length cf] 29)
  have hcn := contains_incl (cap := cap) (c1 := .pointer (some ⟨w.heap.size, 0, none⟩)) (p := fun i => !inB F (S.getD i [])) (hSl.ext hW) (by omega) (fun k hk W2 hW2 => by
    have hk' : k < S.length := by omega
    have := includesC_any (w := W2) (vf := .slice sf F.length cf) (vx := vs[k]) (x := S.getD k []) (b := w.heap.size) ((HF.out.ext hW).ext hW2) (by rw [getD_get hk']; exact ((hr k hk' hk).ext hW).ext hW2) (by rw [getD_get hk']; exact pair_open hp (List.getElem_mem hk')) ((hL.ext hW).ext hW2) (hW2.cell (by go_simp))
    exact this)
  rw [hvl] at hcn
  have Hcn := Lib.hid hcn
  have Hin := Lib.hid (show inclB F S = !(anyB (fun i => !inB F (S.getD i [])) S.length) from rfl)
  obtain ⟨q, hq⟩ : ∃ q, q = anyB (fun i => !inB F (S.getD i [])) S.length := ⟨_, rfl⟩
  rw [← hq] at Hcn Hin
  rw [Hin.out]
  clear hcn hq hSl hr hvl hp hL h2 Hin
  go_enter Tryz.func51, Tryz.ntmps51
  go_wp2_with fail
  refine Hcn.out.mono ?_
  rintro e w1 ⟨rfl, hE1⟩
  go_wp2_with fail
  go_ret
  exact ⟨rfl, hW.trans hE1⟩
set_option maxRecDepth 100000 in
set_option maxHeartbeats 1000000 in
theorem pair_ok {w : World} {vf vs : Value} {F S : Mx} (hF : MatR w vf F) (hS : MatR w vs S) (hp : pairE F S = 0) :
    Calls Tryz.prog 50 #[vf, vs] w fun e w' => e = .returned (.int .i64 0) ∧ Ext w w' := by
  obtain ⟨h1, h2, h3, h4⟩ := pairE_ok hp
  obtain ⟨hm, hn, hrect, _⟩ := checkM_ok h1
  have hk1 := Lib.hid (fun W (hW : Ext w W) => tableCheck_any (hF.ext hW))
  have hk2 := Lib.hid (fun W (hW : Ext w W) => tableCheck_any (hS.ext hW))
  have hif := Lib.hid (fun W (hW : Ext w W) => isForm_any (hF.ext hW) hrect (by omega) (by omega))
  rw [h1] at hk1
  rw [h2] at hk2
  rw [h3] at hif
  obtain ⟨sf, bf, of, cf, us, rfl, _, hul, hUl, hru⟩ := hF
  obtain ⟨sa, gb, go, cap, vs, rfl, _, hvl, hSl, hr⟩ := hS
  have hH : ∃ (a b : Bool), decide (0 < F.length) = a ∧ decide (0 < S.length) = b ∧ (a = true → b = true → ∃ s0 c0 s1 c1, sf = some ⟨bf, of, none⟩ ∧ w.cell? ⟨bf, of, none⟩ = some (.slice s0 (ncols F) c0) ∧ sa = some ⟨gb, go, none⟩ ∧ w.cell? ⟨gb, go, none⟩ = some (.slice s1 (ncols F) c1)) := by
    refine ⟨_, _, rfl, rfl, fun ha hb => ?_⟩
    have ha' : 0 < F.length := of_decide_eq_true ha
    have hb' : 0 < S.length := of_decide_eq_true hb
    obtain ⟨s0, c0, q1, q2⟩ := ncols_row hUl hul hru ha'
    obtain ⟨s1, c1, q3, q4⟩ := ncols_row hSl hvl hr hb'
    rw [h4 ha' hb'] at q4
    exact ⟨s0, c0, s1, c1, q1, q2, q3, q4⟩
  have HH := Lib.hid hH
  clear h1 h2 h3 h4 hp hul hUl hru hvl hSl hr hH hrect
  have hW := (Ext.refl w).alloc (.cells #[.slice sf F.length cf, .slice sa S.length cap] 29)
  go_enter Tryz.func50, Tryz.ntmps50
  go_wp2_with fail
  obtain ⟨W0, hW0⟩ : ∃ W0, W0 = w.alloc (.cells #[.slice sf F.length cf, .slice sa S.length cap] 29) := ⟨_, rfl⟩
  have e0 : W0.cell? ⟨w.heap.size, 0, none⟩ = some (.slice sf F.length cf) := by rw [hW0]; go_simp
  have e1 : W0.cell? ⟨w.heap.size, 1, none⟩ = some (.slice sa S.length cap) := by rw [hW0]; go_simp
  rw [← hW0] at hW ⊢
  clear hW0
  go_loopw [12] (fun idx wr => ∃ i : Nat, i ≤ 2 ∧ idx = .int .i64 i ∧ Ext W0 wr) (fun idx _ => 2 - (intOf idx).toNat)
  case atStart => exact ⟨0, by omega, by go_num, Ext.refl _⟩
  case round =>
    obtain ⟨i, hi, rfl, hE⟩ := hrel
    generalize wr = X at *
    have f0 := hE.cell e0
    have f1 := hE.cell e1
    rcases (show i = 0 ∨ i = 1 ∨ i = 2 by omega) with rfl | rfl | rfl
    · rw [show ((0 : Nat) : Int) = 0 from rfl]
      go_wp2_with fail
      refine (hk1.out _ (hW.trans hE)).mono ?_
      rintro e w1 ⟨rfl, hE1⟩
      go_wp2_with fail
      go_roundw
      case rel => exact ⟨1, by omega, by go_num, hE.trans hE1⟩
      case measure => simp [intOf]
    · rw [show ((1 : Nat) : Int) = 1 from rfl]
      go_wp2_with fail
      refine (hk2.out _ (hW.trans hE)).mono ?_
      rintro e w1 ⟨rfl, hE1⟩
      go_wp2_with fail
      go_roundw
      case rel => exact ⟨2, by omega, by go_num, hE.trans hE1⟩
      case measure => simp [intOf]
    · rw [show ((2 : Nat) : Int) = 2 from rfl]
      have hwX := hW.trans hE
      clear e0 e1 f0 f1 hi
      obtain ⟨a, b, ha, hb, hab⟩ := HH.out
      clear HH
      cases a
      · have ha2 : ¬ 0 < F.length := of_decide_eq_false ha
        clear hab hb
        go_wp2_with fail
        refine (hif.out _ hwX).mono ?_
        rintro e w2 ⟨rfl, hE2⟩
        go_wp2_with fail
        go_quiet (fail)
        go_wp2_with fail
        go_ret
        exact ⟨rfl, (hwX.trans hE2).drewN _⟩
      · have ha2 : 0 < F.length := of_decide_eq_true ha
        have ha3 : (0 : Int) < (F.length : Int) := by omega
        cases b
        · have hb2 : ¬ 0 < S.length := of_decide_eq_false hb
          clear hab
          go_wp2_with fail
          refine (hif.out _ hwX).mono ?_
          rintro e w2 ⟨rfl, hE2⟩
          go_wp2_with fail
          go_quiet (fail)
          go_wp2_with fail
          go_ret
          exact ⟨rfl, (hwX.trans hE2).drewN _⟩
        · have hb2 : 0 < S.length := of_decide_eq_true hb
          have hb3 : (0 : Int) < (S.length : Int) := by omega
          obtain ⟨s0, c0, s1, c1, rfl, q2, rfl, q4⟩ := hab rfl rfl
          have Q2 := Lib.hid q2
          have Q4 := Lib.hid q4
          clear hab q2 q4
          go_wp2_with fail
          refine (hif.out _ hwX).mono ?_
          rintro e w2 ⟨rfl, hE2⟩
          have r2 := (hwX.trans hE2).cell Q2.out
          have r4 := (hwX.trans hE2).cell Q4.out
          go_wp2_with fail
          go_quiet (fail)
          go_wp2_with fail
          go_ret
          exact ⟨rfl, (hwX.trans hE2).drewN _⟩
theorem Includes_ok {w : World} {vf vs : Value} {F S : Mx} (hF : MatR w vf F) (hS : MatR w vs S) (hp : pairE F S = 0) (hL : Laid w) :
    Calls Tryz.prog 13 #[vf, vs] w fun e w' => e = .returned (.tuple #[.bool (inclB F S), .int .i64 0]) ∧ Ext w w' := by
  have hpa := Lib.hid (pair_ok hF hS hp)
  have hin := Lib.hid (fun W (hW : Ext w W) => includes_any (hF.ext hW) (hS.ext hW) hp (hL.ext hW))
  clear hF hS hp hL
  go_enter Tryz.func13, Tryz.ntmps13
  go_wp2_with fail
  refine hpa.out.mono ?_
  rintro e w1 ⟨rfl, hE1⟩
  go_wp2_with fail
  refine (hin.out _ hE1).mono ?_
  rintro e w2 ⟨rfl, hE2⟩
  go_wp2_with fail
  go_ret2
  exact ⟨rfl, hE1.trans hE2⟩
end Go.Proofs.YthmhmkkcjlgbjaaGreatDoor
/- Plain: the index of a sublattice. -/
namespace Go.Proofs.YthmhmkkcjlgbjaaGreatDoor
open Hnf (V Span Ech Red)
theorem sub_piv {n : Nat} {ps qs : List Nat} {F G : Mx} (hF : IsH n ps F) (hG : IsH n qs G) (hs : ∀ v ∈ latM G, Span (latM F) v) {i : Nat} (hi : i < G.length) : ∃ k, k < F.length ∧ ps.getD k 0 = qs.getD i 0 ∧ eM F k (ps.getD k 0) ∣ eM G i (qs.getD i 0) := by
  have hv : Span (latM F) (vr (G.getD i [])) := hs _ (by rw [getD_get hi]; exact List.mem_map.2 ⟨G[i], List.getElem_mem hi, rfl⟩)
  rw [← wps_rows hF.len] at hv
  have hne : vr (G.getD i []) (qs.getD i 0) ≠ 0 := by
    have : eM G i (qs.getD i 0) ≠ 0 := by have := hG.pos i hi; omega
    exact this
  obtain ⟨g, hg, e, hd⟩ := hF.ech.lead hv hne (fun j hj => hG.left i hi j hj)
  obtain ⟨k, hk, rfl⟩ := wps_mem hF.len hg
  simp only at e hd
  refine ⟨k, hk, e, ?_⟩
  rw [e]
  exact hd
/-- A sublattice of no less rank has the same pivots. -/
theorem same_piv {n : Nat} {ps qs : List Nat} {F G : Mx} (hF : IsH n ps F) (hG : IsH n qs G) (hs : ∀ v ∈ latM G, Span (latM F) v) (hl : F.length ≤ G.length) :
    G.length = F.length ∧ ∀ i, i < F.length → qs.getD i 0 = ps.getD i 0 ∧ eM F i (ps.getD i 0) ∣ eM G i (ps.getD i 0) := by
  have hk : ∀ i, ∃ k, i < G.length → k < F.length ∧ ps.getD k 0 = qs.getD i 0 ∧ eM F k (ps.getD k 0) ∣ eM G i (qs.getD i 0) := fun i => by
    by_cases hi : i < G.length
    · obtain ⟨k, h⟩ := sub_piv hF hG hs hi; exact ⟨k, fun _ => h⟩
    · exact ⟨0, fun h => absurd h hi⟩
  obtain ⟨k, hk⟩ := Classical.axiomOfChoice hk
  have hmono : ∀ i j, i < j → j < G.length → k i < k j := fun i j hij hj => by
    have h1 := hk i (by omega)
    have h2 := hk j hj
    have h3 := hG.inc i j hij hj
    rcases Nat.lt_trichotomy (k i) (k j) with h | h | h
    · exact h
    · rw [h] at h1; omega
    · have := hF.inc (k j) (k i) h h1.1; omega
  have hge : ∀ i, i < G.length → i ≤ k i := by
    intro i
    induction i with
    | zero => intro _; omega
    | succ i ih => intro hi; have := ih (by omega); have := hmono i (i + 1) (by omega) hi; omega
  have hle : ∀ d i, i + d + 1 = G.length → k i + d + 1 ≤ F.length := by
    intro d
    induction d with
    | zero => intro i hi; have := (hk i (by omega)).1; omega
    | succ d ih => intro i hi; have := ih (i + 1) (by omega); have := hmono i (i + 1) (by omega) (by omega); omega
  have hki : ∀ i, i < G.length → k i = i := fun i hi => by
    have := hge i hi
    have := hle (G.length - i - 1) i (by omega)
    omega
  have hlen : G.length = F.length := by
    rcases Nat.eq_zero_or_pos G.length with h | h
    · omega
    · have := (hk (G.length - 1) (by omega)).1
      rw [hki _ (by omega)] at this
      omega
  refine ⟨hlen, fun i hi => ?_⟩
  have h := hk i (by omega)
  rw [hki i (by omega)] at h
  exact ⟨h.2.1.symm, by rw [← h.2.1] at h; exact h.2.2⟩
/-- The product of the quotients of the pivots of the first i rows. -/
def idxN (F G : Mx) : Nat → Int
  | 0 => 1
  | i + 1 => idxN F G i * (eM G i (pv (F.getD i []))).fdiv (eM F i (pv (F.getD i [])))
def pivP (F G : Mx) : Nat → Int
  | 0 => 1
  | i + 1 => pivP F G i * eM G i (pv (F.getD i []))
theorem idxN_mul {F G : Mx} (h0 : ∀ i, i < F.length → 0 < eM F i (pv (F.getD i []))) (hd : ∀ i, i < F.length → eM F i (pv (F.getD i [])) ∣ eM G i (pv (F.getD i []))) : ∀ i, i ≤ F.length → idxN F G i * pivP F F i = pivP F G i
  | 0, _ => rfl
  | i + 1, h => by
    have ih := idxN_mul h0 hd i (by omega)
    have hp := h0 i (by omega)
    obtain ⟨c, hc⟩ := hd i (by omega)
    have hq : (eM G i (pv (F.getD i []))).fdiv (eM F i (pv (F.getD i []))) = c := by rw [hc]; exact Int.mul_fdiv_cancel_left _ (by omega)
    simp only [idxN, pivP]
    rw [hq, ← ih, hc]
    grind
theorem pivP_pos {F : Mx} (h0 : ∀ i, i < F.length → 0 < eM F i (pv (F.getD i []))) : ∀ i, i ≤ F.length → 0 < pivP F F i
  | 0, _ => by simp [pivP]
  | i + 1, h => Int.mul_pos (pivP_pos h0 i (by omega)) (h0 i (by omega))
theorem idxN_abs {F G : Mx} {E : Nat} (h0 : ∀ i, i < F.length → eM F i (pv (F.getD i [])) ≠ 0) (hG : ∀ i, i < F.length → (eM G i (pv (F.getD i []))).natAbs < 2 ^ E) : ∀ i, i ≤ F.length → (idxN F G i).natAbs ≤ 2 ^ (E * i)
  | 0, _ => by simp [idxN]
  | i + 1, h => by
    have ih := idxN_abs h0 hG i (by omega)
    have h1 := fdiv_abs (eM G i (pv (F.getD i []))) (h0 i (by omega))
    have h2 := hG i (by omega)
    rw [idxN, Int.natAbs_mul, Nat.mul_succ, Nat.pow_add]
    exact Nat.mul_le_mul ih (by omega)
end Go.Proofs.YthmhmkkcjlgbjaaGreatDoor
/- hermite: Index (of what is right) -/
namespace Go.Proofs.YthmhmkkcjlgbjaaGreatDoor
open Go.RowKit Go.Sort
theorem I_one : I 1 = .string ⟨#[49]⟩ := by unfold I S; rw [show (1 : Int) = ((1 : Nat) : Int) from rfl, itoa_nat, Lib.decDigits]; rfl
/-- What Index returns. -/
def IxPost (w : World) (F S : Mx) (e : Ending) (w' : World) : Prop :=
  (if inclB F S then ∃ G, HnfOf (ncols S) S G ∧ (if G.length < F.length then e = .returned (.tuple #[.string ⟨#[]⟩, .bool false, .int .i64 0]) else e = .returned (.tuple #[I (idxN F G F.length), .bool true, .int .i64 0]))
   else e = .returned (.tuple #[.string ⟨#[]⟩, .bool false, .int .i64 14])) ∧ Ext w w'
set_option maxRecDepth 100000 in
set_option maxHeartbeats 1000000 in
theorem Index_ok {w : World} {vf vs : Value} {F S : Mx} (hF : MatR w vf F) (hS : MatR w vs S) (hp : pairE F S = 0) (hk : 13 * (bC S.length 30 (ncols S) + 2) < LIM) (hL : Laid w) :
    Calls Tryz.prog 14 #[vf, vs] w (IxPost w F S) := by
  have hpa := Lib.hid (pair_ok hF hS hp)
  have hin := Lib.hid (fun W (hW : Ext w W) => includes_any (hF.ext hW) (hS.ext hW) hp (hL.ext hW))
  obtain ⟨hc1, hc2, hi1, hcols⟩ := pairE_ok hp
  obtain ⟨hm12, hn12, hrect, hent⟩ := checkM_ok hc1
  obtain ⟨hs12, ht12, hrectS, hentS⟩ := checkM_ok hc2
  have HS := Lib.hid hS
  have HL := Lib.hid hL
  have HF := Lib.hid hF
  have hisH := isF_isH hrect hi1
  have HisH := Lib.hid hisH
  have HRS := Lib.hid hrectS
  have HRF := Lib.hid hrect
  have HeS := Lib.hid hentS
  have HeF := Lib.hid hent
  have Hk := Lib.hid hk
  have Hcols := Lib.hid hcols
  obtain ⟨sf, bf, of, cf, us, rfl, hcf, hul, hUl, hru⟩ := hF
  have HUl := Lib.hid hUl
  have Hul := Lib.hid hul
  have Hru := Lib.hid hru
  clear hS hp hL hc1 hc2 hi1 hrect hent hrectS hentS hk hisH hcols hul hUl hru
  cases hb : inclB F S
  · rw [hb] at hin
    have Hb := Lib.hid hb
    clear hb
    go_enter Tryz.func14, Tryz.ntmps14
    go_wp2_with fail
    refine hpa.out.mono ?_
    rintro e w1 ⟨rfl, hE1⟩
    go_wp2_with fail
    refine (hin.out _ hE1).mono ?_
    rintro e w2 ⟨rfl, hE2⟩
    go_wp2_with fail
    go_ret3
    refine ⟨?_, hE1.trans hE2⟩
    rw [if_neg (by rw [Hb.out]; decide)]; rfl
  · rw [hb] at hin
    have Hb := Lib.hid hb
    clear hb
    have hli := Lib.hid (fun W (hW : Ext w W) => lines_any (n := ncols S) (HS.out.ext hW) HRS.out (by omega) (by omega) (fun r hr z hz => by have := HeS.out r hr z hz; unfold I64; omega) (HL.out.ext hW))
    have hcol := Lib.hid (fun W (hW : Ext w W) => columns_any (HS.out.ext hW))
    go_enter Tryz.func14, Tryz.ntmps14
    go_wp2_with fail
    refine hpa.out.mono ?_
    rintro e w1 ⟨rfl, hE1⟩
    go_wp2_with fail
    refine (hin.out _ hE1).mono ?_
    rintro e w2 ⟨rfl, hE2⟩
    have hEw2 := hE1.trans hE2
    go_wp2_with fail
    refine (hli.out _ hEw2).mono ?_
    rintro e w3 ⟨v3, ad, rfl, hV, hE3⟩
    have hEw3 := hEw2.trans hE3
    clear hpa hin hli
    have hsh : ∃ ga cp, v3 = .slice ga S.length cp ∧ S.length ≤ cp ∧ (0 < S.length → ∃ g, ga = some ⟨g, 0, none⟩) := by
      have hr := hV.row
      rw [lines0_length] at hr
      rcases hr.2 with ⟨rfl, h0⟩ | ⟨g, cap, cur, rfl, hb, hg, hn, hm, hs, ht⟩
      · rw [h0]; exact ⟨none, 0, rfl, Nat.le_refl _, fun h => by omega⟩
      · exact ⟨_, cap, rfl, hn, fun _ => ⟨g, rfl⟩⟩
    obtain ⟨ga, cp, rfl, hcp, hgs⟩ := hsh
    have HV := Lib.hid hV
    clear hV
    by_cases hn0 : ncols S = 0
    · rw [hn0] at hcol
      have HG := Lib.hid (hnf_nil (M := S) (by rw [← hn0]; exact HRS.out))
      rw [← hn0] at HG
      clear hn0
      by_cases hF0 : 0 < F.length
      · have hF0i : (0 : Int) < (F.length : Int) := by omega
        go_wp2_with fail
        refine (hcol.out _ hEw3).mono ?_
        rintro e w4 ⟨rfl, hE4⟩
        go_wp2_with fail
        refine (echelon_zero rfl).mono ?_
        rintro e w5 ⟨rfl, rfl⟩
        go_wp2_with fail
        go_ret3
        refine ⟨?_, hEw3.trans hE4⟩
        rw [if_pos Hb.out]
        refine ⟨[], HG.out, ?_⟩
        rw [if_pos (by simpa using hF0)]; rfl
      · have hF0n : F.length = 0 := by omega
        rw [hF0n] at hcf ⊢
        have hI1 := I_one
        have HI1 := Lib.hid hI1
        have HF0 := Lib.hid hF0n
        clear hF0n hF0 hI1
        go_wp2_with fail
        refine (hcol.out _ hEw3).mono ?_
        rintro e w4 ⟨rfl, hE4⟩
        go_wp2_with fail
        refine (echelon_zero rfl).mono ?_
        rintro e w5 ⟨rfl, rfl⟩
        go_wp2_with fail
        go_loopw [4, 36] (fun out idx wr => idx = .int .i64 0 ∧ out = .string ⟨#[49]⟩ ∧ wr = w5) (fun _ _ _ => 0)
        case atStart => exact ⟨rfl, rfl, rfl⟩
        case round =>
          obtain ⟨rfl, rfl, hwr⟩ := hrel
          subst hwr
          go_wp2_with fail
          go_ret3
          refine ⟨?_, hEw3.trans hE4⟩
          rw [if_pos Hb.out]
          refine ⟨[], HG.out, ?_⟩
          rw [if_neg (by rw [HF0.out]; simp), HF0.out, show idxN F [] 0 = 1 from rfl, HI1.out]; rfl
    · have hnp : 0 < ncols S := by omega
      have hmp : 0 < S.length := by
        rcases Nat.eq_zero_or_pos S.length with h | h
        · have : S = [] := List.eq_nil_of_length_eq_zero h
          rw [this] at hn0; exact absurd rfl hn0
        · exact h
      obtain ⟨g, rfl⟩ := hgs hmp
      have hlns : Lns w2.heap.size w3 g ad (lines0 S) := by
        have := HV.out
        have h2 : LnsV w2.heap.size w3 (slv g (lines0 S).length cp) ad (lines0 S) (ncols S) S.length := by rw [lines0_length]; exact this
        exact h2.lns hnp
      have Hlns := Lib.hid hlns
      have hech := Lib.hid (fun W (hW : Ext w3 W) => echelon_walk (w0 := w2) (w := W) (g := g) (cp := cp) (n := ncols S) (m := S.length) (L := S.length) (k := 30) (by simp) (by omega) hcp (by omega) (by omega) (Hlns.out.ext hW) (lines0_dim HRS.out) (lines0_all HeS.out) (by have := Hk.out; omega) (HL.out.ext hEw2) (hE3.trans hW))
      clear hlns hgs hn0
      go_wp2_with fail
      refine (hcol.out _ hEw3).mono ?_
      rintro e w4 ⟨rfl, hE4⟩
      go_wp2_with fail
      refine (hech.out _ hE4).mono ?_
      rintro e w5 ⟨d, ps, ad', ls', rfl, hL5, hF5, hO5, hA5, hE5⟩
      have HnF := form_of HRS.out hO5 hF5
      have hdl := hF5.le
      have hll : ls'.length = S.length := by rw [hO5.length]; simp
      have hGl := fRows_length hdl
      have hen := fun i (h : i < d) j => eM_fRows (d := d) (ls := ls') h j hdl
      have Hdim := Lib.hid ((lines0_dim HRS.out).ops hO5)
      have HA5 := Lib.hid hA5
      have Hll := Lib.hid hll
      have hEw5 := hEw2.trans hE5
      obtain ⟨G, hG⟩ : ∃ G, G = fRows d ls' := ⟨_, rfl⟩
      rw [← hG] at HnF hGl
      have Hen := Lib.hid (fun i (h : i < d) j => show eM G i j = en ls' i j by rw [hG]; exact hen i h j)
      have HG := Lib.hid HnF
      have HGl := Lib.hid hGl
      have hdS : d ≤ S.length := by omega
      clear hech hcol hO5 hF5 hA5 Hlns HV hdl hll hen hG HnF hGl
      by_cases hdF : d < F.length
      · have hdFi : (d : Int) < (F.length : Int) := by omega
        go_wp2_with fail
        go_ret3
        refine ⟨?_, hEw5⟩
        rw [if_pos Hb.out]
        exact ⟨G, HG.out, by rw [if_pos (by rw [HGl.out]; exact hdF)]; rfl⟩
      · have hdFi : (F.length : Int) ≤ (d : Int) := by omega
        have hI1 := I_one
        have HI1 := Lib.hid hI1
        have hdd : decide (d < F.length) = false := decide_eq_false hdF
        have hdd2 : decide ((d : Int) < (F.length : Int)) = false := decide_eq_false (by omega)
        clear hI1 hdF
        have hEk : bC S.length 30 (ncols S) * 13 + 26 < LIM := by have := Hk.out; omega
        have HEk := Lib.hid hEk
        have hnd : ∀ i, i ≤ F.length → nd (idxN F G i) ≤ bC S.length 30 (ncols S) * 12 + 2 := fun i hi => by
          have h1 := idxN_abs (F := F) (G := G) (E := bC S.length 30 (ncols S)) (fun t ht => (HisH.out.piv t ht)) (fun t ht => by
            rw [Hen.out t (by omega)]
            exact (HA5.out t (by rw [Hll.out]; have := Hdim.out; omega)).col (Q := fun z => z.natAbs < 2 ^ _) (Nat.pow_pos (by omega)) _) i hi
          have h2 : (idxN F G i).natAbs < 2 ^ (bC S.length 30 (ncols S) * i + 1) := by
            rw [Nat.pow_succ]
            have := Nat.pow_pos (a := 2) (n := bC S.length 30 (ncols S) * i) (by omega)
            omega
          have h3 := nd_lt2 h2
          have h4 : bC S.length 30 (ncols S) * i ≤ bC S.length 30 (ncols S) * 12 := Nat.mul_le_mul_left _ (by omega)
          omega
        have Hnd := Lib.hid hnd
        clear hEk hnd
        go_wp2_with fail
        go_loopw [4, 36] (fun out idx wr => ∃ i : Nat, i ≤ F.length ∧ idx = .int .i64 i ∧ Hid (out = I (idxN F G i)) ∧ Ext w5 wr) (fun _ idx _ => F.length - (intOf idx).toNat)
        case atStart => exact ⟨0, by omega, by go_num, Lib.hid (by rw [show idxN F G 0 = 1 from rfl, HI1.out]), Ext.refl _⟩
        case round =>
          obtain ⟨i, hi, rfl, hO, hE6⟩ := hrel
          have hO' := hO.out
          subst hO'
          clear hO
          generalize wr = X at *
          by_cases hlt : i < F.length
          · have hii : (i : Int) < (F.length : Int) := by omega
            obtain ⟨sr, br, or, cr, hrow, hrc, hSr⟩ := MatR.row HUl.out Hul.out Hru.out hlt
            obtain rfl := HUl.out.addr (by rw [Hul.out]; omega)
            have hnS : ncols S = ncols F := Hcols.out (by omega) hmp
            have hrl : F[i].length = ncols F := HRF.out _ (List.getElem_mem hlt)
            have hFd : F.getD i [] = F[i] := getD_get hlt []
            have hpl : pv F[i] < ncols F := by
              have := HisH.out.lt i hlt
              rwa [getD_map pv F i hlt 0 [], hFd] at this
            have hpI : pvI F[i] = (pv F[i] : Int) := by unfold pvI; rw [if_pos (by rw [hrl]; exact hpl)]
            have hpne : F[i].getD (pv F[i]) 0 ≠ 0 := by have := HisH.out.piv i hlt; rwa [hFd] at this
            have hrow' := (hEw5.trans hE6).cell hrow
            rw [hrl] at hrow'
            have hpc := Lib.hid (fun W (hW : Ext w W) => pivot_any (w := W) (v := .slice sr (ncols F) cr) (r := F[i]) ⟨sr, br, or, cr, by rw [hrl], hrc, hSr.ext hW⟩ (by omega))
            rw [hpI] at hpc
            have hcr := hSr.cell (pv F[i]) (.int .i64 (F[i].getD (pv F[i]) 0)) (by rw [getD_get (by omega)]; exact is_get (by omega))
            obtain rfl := hSr.addr (by rw [is_length]; omega)
            obtain ⟨gx, cx, gy, cy, ead, c1, c2, cz, o1, o2, _, _, _⟩ := (hL5.ext hE6).ln (d := 0) (c := pv F[i]) (i := i) (o := i * 2) Hdim.out (by rw [Hll.out]; omega) (by omega) (by omega)
            have hen : cols (pv F[i]) 0 ls' i = eM G i (pv F[i]) := by
              rw [Hen.out i (by omega)]; unfold cols en; rw [Nat.zero_add]
            rw [hen] at cz
            have hbig := (HA5.out i (by rw [Hll.out]; omega)).col (Q := fun z => z.natAbs < 2 ^ (bC S.length 30 (ncols S))) (Nat.pow_pos (by omega)) (pv F[i])
            have hen2 : col (pv F[i]) (ls'.getD i default) = eM G i (pv F[i]) := by rw [Hen.out i (by omega)]; rfl
            rw [hen2] at hbig
            have hst : idxN F G (i + 1) = idxN F G i * (eM G i (pv F[i])).fdiv (F[i].getD (pv F[i]) 0) := by
              rw [idxN, hFd]; unfold eM; rw [hFd]
            have hen64 := HeF.out _ (List.getElem_mem hlt) (F[i].getD (pv F[i]) 0) (by rw [getD_get (by omega)]; exact List.getElem_mem _)
            obtain ⟨p, hp⟩ : ∃ p, p = pv F[i] := ⟨_, rfl⟩
            rw [← hp] at hpl hpc hcr cz hbig hst hpne hen64
            obtain ⟨b, hb⟩ : ∃ b, b = F[i].getD p 0 := ⟨_, rfl⟩
            obtain ⟨a, ha⟩ : ∃ a, a = eM G i p := ⟨_, rfl⟩
            obtain ⟨m, hm⟩ : ∃ m, m = idxN F G i := ⟨_, rfl⟩
            rw [← hb] at hcr hst hpne hen64
            rw [← ha] at cz hbig hst
            rw [← hm] at hst ⊢
            have hqn := fdiv_abs a hpne
            have hna := nd_lt2 hbig
            have hnq : nd (a.fdiv b) ≤ bC S.length 30 (ncols S) + 1 := nd_lt2 (Nat.lt_of_le_of_lt hqn hbig)
            have hnm : nd m ≤ bC S.length 30 (ncols S) * 12 + 2 := by rw [hm]; exact Hnd.out i (by omega)
            have hnb : nd b < LIM := by
              have h30 : b.natAbs < 2 ^ 30 := by
                have e : (2 : Nat) ^ 30 = 1073741824 := by decide
                rw [e]; omega
              have := nd_lt2 h30; unfold LIM; omega
            have Hdm := Lib.hid (fun W (hW : Ext w W) => DivMod_any (a := a) (b := b) (w := W) (by have := HEk.out; omega) hnb hpne (HL.out.ext hW))
            have Hmu := Lib.hid (fun W (hW : Ext w W) => Mul_any (a := m) (b := a.fdiv b) (w := W) (by have := HEk.out; omega) (HL.out.ext hW))
            have Hof := Lib.hid (fun W (hW : Ext w W) => wholeOf_any (n := b) (w := W) (by omega) (by omega) (HL.out.ext hW))
            have Hst := Lib.hid hst
            have hEwX := hEw5.trans hE6
            have hcr2 := hEwX.cell hcr
            have hpi : (p : Int) < (ncols F : Int) := by omega
            have hpi2 : (p : Int) < (ncols S : Int) := by omega
            have hiS : (i : Int) < (S.length : Int) := by omega
            have lgx := o1.lt.2
            clear hrow hrc hSr hrl hFd hpI hpne hcr ead c2 o1 o2 hen hbig hen2 hst hen64 hb ha hm hqn hna hnq hnm hnb hp hnS
            go_wp2_with fail
            refine (hpc.out _ hEwX).mono ?_
            rintro e W ⟨rfl, hW⟩
            have k1 := cell_regrown (hW.cell hcr2)
            have k2 := cell_regrown (hW.cell c1)
            have k3 := cell_regrown (hW.cell cz)
            have hwW := hEwX.trans hW
            have bO := Lib.hid (quietC (w := W) (fun V hV => Hof.out V (hwW.trans hV)))
            have bD := Lib.hid (quietC (w := W) (fun V hV => Hdm.out V (hwW.trans hV)))
            go_wp2_with fail
            refine wp_region_quiet_below (by kernel_rfl) (by kernel_rfl) ?_
            repeat (quiet_step (first | exact bO.out _ _ | exact bD.out _ _))
            refine wpQuiet_nil ?_
            intro _ hw'
            obtain ⟨⟨dq, osq⟩, hw''⟩ := hw'
            subst hw''
            have hW2 := hW.trans (ext_regrown W dq osq)
            clear k1 k2 k3 bO bD Hdm Hof hpc
            generalize hW6 : grow (redrawn _ _) _ = W6 at *
            clear hW6
            go_wp2_with fail
            refine (Hmu.out _ (hEwX.trans hW2)).mono ?_
            rintro e W7 ⟨rfl, hW7⟩
            go_wp2_with fail
            go_roundw
            case rel => exact ⟨i + 1, by omega, by go_num, Lib.hid (by rw [Hst.out]), (hE6.trans hW2).trans hW7⟩
            case measure => simp [intOf] <;> omega
          · have hie : i = F.length := by omega
            subst hie
            go_wp2_with fail
            go_ret3
            refine ⟨?_, hEw5.trans hE6⟩
            rw [if_pos Hb.out]
            exact ⟨G, HG.out, by rw [if_neg (by rw [HGl.out]; omega)]; rfl⟩
end Go.Proofs.YthmhmkkcjlgbjaaGreatDoor
/- schismaref07: EqualRows, Equal -/
namespace Go.Proofs.YthmhmkkcjlgbjaaGreatDoor
open Go.RowKit Go.Sort
theorem list_getD_ext {a b : List Int} (hl : a.length = b.length) (h : ∀ j, j < a.length → a.getD j 0 = b.getD j 0) : a = b := by
  apply List.ext_getElem hl
  intro i h1 h2
  have := h i h1
  rwa [getD_get h1, getD_get h2] at this
theorem mx_getD_ext {a b : Mx} (hl : a.length = b.length) (h : ∀ j, j < a.length → a.getD j [] = b.getD j []) : a = b := by
  apply List.ext_getElem hl
  intro i h1 h2
  have := h i h1
  rwa [getD_get h1, getD_get h2] at this
set_option maxRecDepth 100000 in
set_option maxHeartbeats 1000000 in
theorem EqualRows_any {w : World} {va vb : Value} {a b : List Int} (hA : RowR w va a) (hB : RowR w vb b) (hbig : a.length ≤ 1000000) :
    Calls Tryz.prog 26 #[va, vb] w fun e w' => e = .returned (.bool (decide (a = b))) ∧ Ext w w' := by
  obtain ⟨sa, ga, oa, ca, rfl, hca, hSa⟩ := hA
  obtain ⟨sb, gb, ob, cb, rfl, hcb, hSb⟩ := hB
  by_cases hl : a.length = b.length
  · obtain ⟨n, hn⟩ : ∃ n, n = a.length := ⟨_, rfl⟩
    rw [← hl]
    rw [← hn] at hbig ⊢
    have HA := Lib.hid hSa
    have HB := Lib.hid hSb
    have Hn := Lib.hid hn
    have Hm := Lib.hid (hn.trans hl)
    clear hSa hSb hl hn hca hcb
    go_enter Tryz.func26, Tryz.ntmps26
    go_wp2_with fail
    go_loopw [5] (fun idx wr => ∃ i : Nat, i ≤ n ∧ idx = .int .i64 i ∧ Hid (∀ j, j < i → a.getD j 0 = b.getD j 0) ∧ Ext w wr) (fun idx _ => n - (intOf idx).toNat)
    case atStart => exact ⟨0, by omega, by go_num, Lib.hid (fun j h => by omega), Ext.refl _⟩
    case round =>
      obtain ⟨i, hi, rfl, Hz, hE⟩ := hrel
      generalize wr = X at *
      by_cases hlt : i < n
      · have hii : (i : Int) < (n : Int) := by omega
        have c1 := (HA.out.ext hE).cell i (.int .i64 (a[i]'(by rw [← Hn.out]; exact hlt))) (is_get (by rw [← Hn.out]; exact hlt))
        have c2 := (HB.out.ext hE).cell i (.int .i64 (b[i]'(by rw [← Hm.out]; exact hlt))) (is_get (by rw [← Hm.out]; exact hlt))
        obtain rfl := HA.out.addr (by rw [is_length, ← Hn.out]; omega)
        obtain rfl := HB.out.addr (by rw [is_length, ← Hm.out]; omega)
        obtain ⟨x, hx⟩ : ∃ x, x = a[i]'(by rw [← Hn.out]; exact hlt) := ⟨_, rfl⟩
        obtain ⟨y, hy⟩ : ∃ y, y = b[i]'(by rw [← Hm.out]; exact hlt) := ⟨_, rfl⟩
        rw [← hx] at c1
        rw [← hy] at c2
        have Hx := Lib.hid (show a.getD i 0 = x by rw [hx, getD_get (by rw [← Hn.out]; exact hlt)])
        have Hy := Lib.hid (show b.getD i 0 = y by rw [hy, getD_get (by rw [← Hm.out]; exact hlt)])
        clear hx hy
        by_cases hxy : x = y
        · subst hxy
          go_wp2_with fail
          go_quiet (fail)
          go_wp2_with fail
          go_roundw
          case rel => exact ⟨i + 1, by omega, by go_num, Lib.hid (fun j hj => by
            by_cases e : j = i
            · subst e; rw [Hx.out, Hy.out]
            · exact Hz.out j (by omega)), hE.drewN _⟩
          case measure => simp [intOf] <;> omega
        · have hb1 : (x == y) = false := beq_eq_false_iff_ne.2 hxy
          have hb2 : (x != y) = true := by simp [bne, hb1]
          have Hne := Lib.hid (show decide (a = b) = false from decide_eq_false (fun e => hxy (by rw [← Hx.out, ← Hy.out, e])))
          go_wp2_with fail
          go_quiet (fail)
          go_wp2_with fail
          go_ret
          exact ⟨by rw [Hne.out]; rfl, hE.drewN _⟩
      · have Heq := Lib.hid (show decide (a = b) = true from decide_eq_true (list_getD_ext (by rw [← Hn.out, ← Hm.out]) (fun j hj => Hz.out j (by rw [← Hn.out] at hj; omega))))
        go_wp2_with fail
        go_ret
        exact ⟨by rw [Heq.out]; rfl, hE⟩
  · have hne : decide (a = b) = false := decide_eq_false (fun e => hl (by rw [e]))
    rw [hne]
    have h1 : ¬ ((a.length : Int) = (b.length : Int)) := by omega
    have h2 : ((a.length : Int) == (b.length : Int)) = false := beq_eq_false_iff_ne.2 h1
    have h3 : ((a.length : Int) != (b.length : Int)) = true := by simp [bne, h2]
    clear hSa hSb hca hcb hne
    generalize a.length = n at *
    generalize b.length = m at *
    go_enter Tryz.func26, Tryz.ntmps26
    go_wp2_with fail
    go_ret
    exact ⟨rfl, Ext.refl _⟩
set_option maxRecDepth 100000 in
set_option maxHeartbeats 1000000 in
theorem Equal_any {w : World} {va vb : Value} {A B : Mx} (hA : MatR w va A) (hB : MatR w vb B) (hbig : A.length ≤ 1000000) (hbr : ∀ r ∈ A, r.length ≤ 1000000) :
    Calls Tryz.prog 17 #[va, vb] w fun e w' => e = .returned (.bool (decide (A = B))) ∧ Ext w w' := by
  obtain ⟨sa, ga, oa, ca, va', rfl, hca, hvA, hSa, hrA⟩ := hA
  obtain ⟨sb, gb, ob, cb, vb', rfl, hcb, hvB, hSb, hrB⟩ := hB
  by_cases hl : A.length = B.length
  · obtain ⟨n, hn⟩ : ∃ n, n = A.length := ⟨_, rfl⟩
    rw [← hl]
    rw [← hn] at hbig ⊢
    have HA := Lib.hid hSa
    have HB := Lib.hid hSb
    have HvA := Lib.hid hvA
    have HvB := Lib.hid hvB
    have HrA := Lib.hid hrA
    have HrB := Lib.hid hrB
    have Hn := Lib.hid hn
    have Hm := Lib.hid (hn.trans hl)
    clear hSa hSb hl hn hca hcb hvA hvB hrA hrB
    go_enter Tryz.func17, Tryz.ntmps17
    go_wp2_with fail
    go_loopw [5] (fun idx wr => ∃ i : Nat, i ≤ n ∧ idx = .int .i64 i ∧ Hid (∀ j, j < i → A.getD j [] = B.getD j []) ∧ Ext w wr) (fun idx _ => n - (intOf idx).toNat)
    case atStart => exact ⟨0, by omega, by go_num, Lib.hid (fun j h => by omega), Ext.refl _⟩
    case round =>
      obtain ⟨i, hi, rfl, Hz, hE⟩ := hrel
      generalize wr = X at *
      by_cases hlt : i < n
      · have hii : (i : Int) < (n : Int) := by omega
        have hiA : i < A.length := by rw [← Hn.out]; exact hlt
        have hiB : i < B.length := by rw [← Hm.out]; exact hlt
        obtain ⟨sx, bx, ox, cx, hrx, hcx, hSx⟩ := MatR.row HA.out HvA.out HrA.out hiA
        obtain ⟨sy, by', oy, cy, hry, hcy, hSy⟩ := MatR.row HB.out HvB.out HrB.out hiB
        obtain rfl := HA.out.addr (by rw [HvA.out]; omega)
        obtain rfl := HB.out.addr (by rw [HvB.out]; omega)
        have k1 := cell_regrown (hE.cell hrx)
        have k2 := cell_regrown (hE.cell hry)
        have hx1 : RowR X (.slice sx A[i].length cx) A[i] := ⟨sx, bx, ox, cx, rfl, hcx, hSx.ext hE⟩
        have hy1 : RowR X (.slice sy B[i].length cy) B[i] := ⟨sy, by', oy, cy, rfl, hcy, hSy.ext hE⟩
        obtain ⟨lx, hlx⟩ : ∃ l, l = A[i].length := ⟨_, rfl⟩
        obtain ⟨ly, hly⟩ : ∃ l, l = B[i].length := ⟨_, rfl⟩
        rw [← hlx] at k1 hx1
        rw [← hly] at k2 hy1
        clear hlx hly
        have hEQ := Lib.hid (fun V (hV : Ext X V) => EqualRows_any (w := V) (hx1.ext hV) (hy1.ext hV) (hbr _ (List.getElem_mem hiA)))
        have HxA := Lib.hid (show A.getD i [] = A[i] from getD_get hiA [])
        have HxB := Lib.hid (show B.getD i [] = B[i] from getD_get hiB [])
        obtain ⟨q, hq⟩ : ∃ q, q = decide (A[i] = B[i]) := ⟨_, rfl⟩
        rw [← hq] at hEQ
        have bE := Lib.hid (quietC (w := X) (fun V hV => hEQ.out V hV))
        have Hq := Lib.hid hq
        clear hrx hry hcx hcy hSx hSy hq hx1 hy1 hEQ
        cases q
        · have Hne := Lib.hid (show decide (A = B) = false from decide_eq_false (fun e => by
            have := Hq.out.symm
            rw [decide_eq_false_iff_not] at this
            exact this (by rw [← HxA.out, ← HxB.out, e])))
          clear Hq HxA HxB
          go_wp2_with fail
          refine wp_region_quiet_below (by kernel_rfl) (by kernel_rfl) ?_
          repeat (quiet_step (exact bE.out _ _))
          refine wpQuiet_nil ?_
          intro _ hw'
          obtain ⟨⟨dq, osq⟩, hw''⟩ := hw'
          subst hw''
          have hE2 := hE.trans (ext_regrown X dq osq)
          clear k1 k2 bE
          generalize hW6 : grow (redrawn _ _) _ = W6 at *
          clear hW6
          go_wp2_with fail
          go_ret
          exact ⟨by rw [Hne.out]; rfl, hE2⟩
        · have Hok := Lib.hid (show A.getD i [] = B.getD i [] by rw [HxA.out, HxB.out]; exact of_decide_eq_true Hq.out.symm)
          clear Hq HxA HxB
          go_wp2_with fail
          refine wp_region_quiet_below (by kernel_rfl) (by kernel_rfl) ?_
          repeat (quiet_step (exact bE.out _ _))
          refine wpQuiet_nil ?_
          intro _ hw'
          obtain ⟨⟨dq, osq⟩, hw''⟩ := hw'
          subst hw''
          have hE2 := hE.trans (ext_regrown X dq osq)
          clear k1 k2 bE
          generalize hW6 : grow (redrawn _ _) _ = W6 at *
          clear hW6
          go_wp2_with fail
          go_roundw
          case rel => exact ⟨i + 1, by omega, by go_num, Lib.hid (fun j hj => by
            by_cases e : j = i
            · subst e; exact Hok.out
            · exact Hz.out j (by omega)), hE2⟩
          case measure => simp [intOf] <;> omega
      · have Heq := Lib.hid (show decide (A = B) = true from decide_eq_true (mx_getD_ext (by rw [← Hn.out, ← Hm.out]) (fun j hj => Hz.out j (by rw [← Hn.out] at hj; omega))))
        go_wp2_with fail
        go_ret
        exact ⟨by rw [Heq.out]; rfl, hE⟩
  · have hne : decide (A = B) = false := decide_eq_false (fun e => hl (by rw [e]))
    rw [hne]
    have h1 : ¬ ((A.length : Int) = (B.length : Int)) := by omega
    have h2 : ((A.length : Int) == (B.length : Int)) = false := beq_eq_false_iff_ne.2 h1
    have h3 : ((A.length : Int) != (B.length : Int)) = true := by simp [bne, h2]
    clear hSa hSb hca hcb hne hrA hrB hvA hvB
    generalize A.length = n at *
    generalize B.length = m at *
    go_enter Tryz.func17, Tryz.ntmps17
    go_wp2_with fail
    go_ret
    exact ⟨rfl, Ext.refl _⟩
end Go.Proofs.YthmhmkkcjlgbjaaGreatDoor
