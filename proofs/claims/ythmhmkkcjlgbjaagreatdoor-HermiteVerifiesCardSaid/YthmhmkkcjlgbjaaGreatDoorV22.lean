/- Part 22 of the proof of the claim: contracts of the functions that it reaches, and plain laws; no condition. -/
import Derived.Test.YthmhmkkcjlgbjaaGreatDoorV21
import Derived.Test.YthmhmkkcjlgbjaaGreatDoorV19
/- hermite: includes, pair, Includes (of what is right) -/
namespace Go.Proofs.YthmhmkkcjlgbjaaGreatDoor
open Go.RowKit Go.Sort
theorem includesC_any {w : World} {vf vx : Value} {F : Mx} {x : List Int} {b : Nat} (hF : MatR w vf F) (hx : RowR w vx x) (ho : openE F x = 0) (hL : Laid w) (hb : w.cell? ⟨b, 0, none⟩ = some vf) :
    Calls Tryz.prog 87 #[vx, .pointer (some ⟨b, 0, none⟩)] w fun e w' => e = .returned (.bool (!inB F x)) ∧ Ext w w' := by
  have hcn := Lib.hid (contains_any hF hx ho hL)
  obtain ⟨sa, gb, go, cap, vs, rfl, _⟩ := hF
  clear hx ho hL
  go_enter Tryz.func87, Tryz.ntmps87
  go_wp2_with fail
  refine hcn.out.mono ?_
  rintro e w1 ⟨v, rfl, _, hE1⟩
  go_wp2_with fail
  go_ret
  exact ⟨by simp, hE1⟩
def inclB (F S : Mx) : Bool := !(anyB (fun i => !inB F (S.getD i [])) S.length)
theorem inclB_iff {F S : Mx} : inclB F S = true ↔ ∀ x ∈ S, inB F x = true := by
  unfold inclB
  rw [Bool.not_eq_true', ← Bool.not_eq_true, anyB_iff]
  constructor
  · intro h x hx
    obtain ⟨i, hi, rfl⟩ := List.getElem_of_mem hx
    cases hb : inB F S[i]
    · exact absurd ⟨i, hi, by rw [getD_get hi, hb]; rfl⟩ h
    · rfl
  · rintro h ⟨i, hi, hd⟩
    rw [getD_get hi, h _ (List.getElem_mem hi)] at hd
    cases hd
/-- The first error of a form with another matrix. -/
def pairE (F S : Mx) : Int :=
  if checkM F = 0 then if checkM S = 0 then if isF F then if 0 < F.length ∧ 0 < S.length ∧ ncols F ≠ ncols S then 5 else 0 else 7 else checkM S else checkM F
theorem pairE_ok {F S : Mx} (h : pairE F S = 0) : checkM F = 0 ∧ checkM S = 0 ∧ isF F = true ∧ (0 < F.length → 0 < S.length → ncols S = ncols F) := by
  unfold pairE at h
  split at h
  · split at h
    · split at h
      · split at h
        · cases h
        · rename_i h1 h2 h3 h4
          exact ⟨h1, h2, h3, fun h5 h6 => Classical.byContradiction fun h7 => h4 ⟨h5, h6, fun e => h7 e.symm⟩⟩
      · cases h
    · exact absurd h ‹_›
  · exact absurd h ‹_›
theorem pair_open {F S : Mx} (h : pairE F S = 0) {x : List Int} (hx : x ∈ S) : openE F x = 0 := by
  obtain ⟨h1, h2, h3, h4⟩ := pairE_ok h
  obtain ⟨_, hn, hr, he⟩ := checkM_ok h2
  have hS : 0 < S.length := List.length_pos_of_mem hx
  have hc : chkRow x = 0 := by
    unfold chkRow
    rw [if_neg (by rw [hr x hx]; omega), if_neg]
    rw [List.any_eq_true]
    rintro ⟨z, hz, hg⟩
    have := he x hx z hz
    unfold grt at hg
    have := of_decide_eq_true hg
    omega
  unfold openE
  rw [if_pos h1, h3, if_pos rfl, if_pos hc, if_neg]
  rintro ⟨h5, h6⟩
  exact h6 (by rw [hr x hx]; exact h4 h5 hS)
set_option maxRecDepth 100000 in
set_option maxHeartbeats 1000000 in
theorem includes_any {w : World} {vf vs : Value} {F S : Mx} (hF : MatR w vf F) (hS : MatR w vs S) (hp : pairE F S = 0) (hL : Laid w) :
    Calls Tryz.prog 51 #[vf, vs] w fun e w' => e = .returned (.bool (inclB F S)) ∧ Ext w w' := by
  obtain ⟨_, h2, _, _⟩ := pairE_ok hp
  have hs12 := (checkM_ok h2).1
  have HF := Lib.hid hF
  obtain ⟨sf, bf, of, cf, us, rfl, _⟩ := hF
  obtain ⟨sa, gb, go, cap, vs, rfl, hcap, hvl, hSl, hr⟩ := hS
  have hW := (Ext.refl w).alloc (.cells #[.slice sf F.length cf] 29)
  have hcn := contains_incl (cap := cap) (c1 := .pointer (some ⟨w.heap.size, 0, none⟩)) (p := fun i => !inB F (S.getD i [])) (hSl.ext hW) (by omega) (fun k hk W2 hW2 => by
    have hk' : k < S.length := by omega
    have := includesC_any (w := W2) (vf := .slice sf F.length cf) (vx := vs[k]) (x := S.getD k []) (b := w.heap.size) ((HF.out.ext hW).ext hW2) (by rw [getD_get hk']; exact ((hr k hk' hk).ext hW).ext hW2) (by rw [getD_get hk']; exact pair_open hp (List.getElem_mem hk')) ((hL.ext hW).ext hW2) (hW2.cell (by go_simp))
    exact this)
  rw [hvl] at hcn
  have Hcn := Lib.hid hcn
  have Hin := Lib.hid (show inclB F S = !(anyB (fun i => !inB F (S.getD i [])) S.length) from rfl)
  obtain ⟨q, hq⟩ : ∃ q, q = anyB (fun i => !inB F (S.getD i [])) S.length := ⟨_, rfl⟩
  rw [← hq] at Hcn Hin
  rw [Hin.out]
  clear hcn hq hSl hr hvl hp hL h2 Hin
  go_enter Tryz.func51, Tryz.ntmps51
  go_wp2_with fail
  refine Hcn.out.mono ?_
  rintro e w1 ⟨rfl, hE1⟩
  go_wp2_with fail
  go_ret
  exact ⟨rfl, hW.trans hE1⟩
set_option maxRecDepth 100000 in
set_option maxHeartbeats 1000000 in
theorem pair_ok {w : World} {vf vs : Value} {F S : Mx} (hF : MatR w vf F) (hS : MatR w vs S) (hp : pairE F S = 0) :
    Calls Tryz.prog 50 #[vf, vs] w fun e w' => e = .returned (.int .i64 0) ∧ Ext w w' := by
  obtain ⟨h1, h2, h3, h4⟩ := pairE_ok hp
  obtain ⟨hm, hn, hrect, _⟩ := checkM_ok h1
  have hk1 := Lib.hid (fun W (hW : Ext w W) => tableCheck_any (hF.ext hW))
  have hk2 := Lib.hid (fun W (hW : Ext w W) => tableCheck_any (hS.ext hW))
  have hif := Lib.hid (fun W (hW : Ext w W) => isForm_any (hF.ext hW) hrect (by omega) (by omega))
  rw [h1] at hk1
  rw [h2] at hk2
  rw [h3] at hif
  obtain ⟨sf, bf, of, cf, us, rfl, _, hul, hUl, hru⟩ := hF
  obtain ⟨sa, gb, go, cap, vs, rfl, _, hvl, hSl, hr⟩ := hS
  have hH : ∃ (a b : Bool), decide (0 < F.length) = a ∧ decide (0 < S.length) = b ∧ (a = true → b = true → ∃ s0 c0 s1 c1, sf = some ⟨bf, of, none⟩ ∧ w.cell? ⟨bf, of, none⟩ = some (.slice s0 (ncols F) c0) ∧ sa = some ⟨gb, go, none⟩ ∧ w.cell? ⟨gb, go, none⟩ = some (.slice s1 (ncols F) c1)) := by
    refine ⟨_, _, rfl, rfl, fun ha hb => ?_⟩
    have ha' : 0 < F.length := of_decide_eq_true ha
    have hb' : 0 < S.length := of_decide_eq_true hb
    obtain ⟨s0, c0, q1, q2⟩ := ncols_row hUl hul hru ha'
    obtain ⟨s1, c1, q3, q4⟩ := ncols_row hSl hvl hr hb'
    rw [h4 ha' hb'] at q4
    exact ⟨s0, c0, s1, c1, q1, q2, q3, q4⟩
  have HH := Lib.hid hH
  clear h1 h2 h3 h4 hp hul hUl hru hvl hSl hr hH hrect
  have hW := (Ext.refl w).alloc (.cells #[.slice sf F.length cf, .slice sa S.length cap] 29)
  go_enter Tryz.func50, Tryz.ntmps50
  go_wp2_with fail
  obtain ⟨W0, hW0⟩ : ∃ W0, W0 = w.alloc (.cells #[.slice sf F.length cf, .slice sa S.length cap] 29) := ⟨_, rfl⟩
  have e0 : W0.cell? ⟨w.heap.size, 0, none⟩ = some (.slice sf F.length cf) := by rw [hW0]; go_simp
  have e1 : W0.cell? ⟨w.heap.size, 1, none⟩ = some (.slice sa S.length cap) := by rw [hW0]; go_simp
  rw [← hW0] at hW ⊢
  clear hW0
  go_loopw [12] (fun idx wr => ∃ i : Nat, i ≤ 2 ∧ idx = .int .i64 i ∧ Ext W0 wr) (fun idx _ => 2 - (intOf idx).toNat)
  case atStart => exact ⟨0, by omega, by go_num, Ext.refl _⟩
  case round =>
    obtain ⟨i, hi, rfl, hE⟩ := hrel
    generalize wr = X at *
    have f0 := hE.cell e0
    have f1 := hE.cell e1
    rcases (show i = 0 ∨ i = 1 ∨ i = 2 by omega) with rfl | rfl | rfl
    · rw [show ((0 : Nat) : Int) = 0 from rfl]
      go_wp2_with fail
      refine (hk1.out _ (hW.trans hE)).mono ?_
      rintro e w1 ⟨rfl, hE1⟩
      go_wp2_with fail
      go_roundw
      case rel => exact ⟨1, by omega, by go_num, hE.trans hE1⟩
      case measure => simp [intOf]
    · rw [show ((1 : Nat) : Int) = 1 from rfl]
      go_wp2_with fail
      refine (hk2.out _ (hW.trans hE)).mono ?_
      rintro e w1 ⟨rfl, hE1⟩
      go_wp2_with fail
      go_roundw
      case rel => exact ⟨2, by omega, by go_num, hE.trans hE1⟩
      case measure => simp [intOf]
    · rw [show ((2 : Nat) : Int) = 2 from rfl]
      have hwX := hW.trans hE
      clear e0 e1 f0 f1 hi
      obtain ⟨a, b, ha, hb, hab⟩ := HH.out
      clear HH
      cases a
      · have ha2 : ¬ 0 < F.length := of_decide_eq_false ha
        clear hab hb
        go_wp2_with fail
        refine (hif.out _ hwX).mono ?_
        rintro e w2 ⟨rfl, hE2⟩
        go_wp2_with fail
        go_quiet (fail)
        go_wp2_with fail
        go_ret
        exact ⟨rfl, (hwX.trans hE2).drewN _⟩
      · have ha2 : 0 < F.length := of_decide_eq_true ha
        have ha3 : (0 : Int) < (F.length : Int) := by omega
        cases b
        · have hb2 : ¬ 0 < S.length := of_decide_eq_false hb
          clear hab
          go_wp2_with fail
          refine (hif.out _ hwX).mono ?_
          rintro e w2 ⟨rfl, hE2⟩
          go_wp2_with fail
          go_quiet (fail)
          go_wp2_with fail
          go_ret
          exact ⟨rfl, (hwX.trans hE2).drewN _⟩
        · have hb2 : 0 < S.length := of_decide_eq_true hb
          have hb3 : (0 : Int) < (S.length : Int) := by omega
          obtain ⟨s0, c0, s1, c1, rfl, q2, rfl, q4⟩ := hab rfl rfl
          have Q2 := Lib.hid q2
          have Q4 := Lib.hid q4
          clear hab q2 q4
          go_wp2_with fail
          refine (hif.out _ hwX).mono ?_
          rintro e w2 ⟨rfl, hE2⟩
          have r2 := (hwX.trans hE2).cell Q2.out
          have r4 := (hwX.trans hE2).cell Q4.out
          go_wp2_with fail
          go_quiet (fail)
          go_wp2_with fail
          go_ret
          exact ⟨rfl, (hwX.trans hE2).drewN _⟩
theorem Includes_ok {w : World} {vf vs : Value} {F S : Mx} (hF : MatR w vf F) (hS : MatR w vs S) (hp : pairE F S = 0) (hL : Laid w) :
    Calls Tryz.prog 13 #[vf, vs] w fun e w' => e = .returned (.tuple #[.bool (inclB F S), .int .i64 0]) ∧ Ext w w' := by
  have hpa := Lib.hid (pair_ok hF hS hp)
  have hin := Lib.hid (fun W (hW : Ext w W) => includes_any (hF.ext hW) (hS.ext hW) hp (hL.ext hW))
  clear hF hS hp hL
  go_enter Tryz.func13, Tryz.ntmps13
  go_wp2_with fail
  refine hpa.out.mono ?_
  rintro e w1 ⟨rfl, hE1⟩
  go_wp2_with fail
  refine (hin.out _ hE1).mono ?_
  rintro e w2 ⟨rfl, hE2⟩
  go_wp2_with fail
  go_ret2
  exact ⟨rfl, hE1.trans hE2⟩
end Go.Proofs.YthmhmkkcjlgbjaaGreatDoor
/- Plain: the index of a sublattice. -/
namespace Go.Proofs.YthmhmkkcjlgbjaaGreatDoor
open Hnf (V Span Ech Red)
theorem sub_piv {n : Nat} {ps qs : List Nat} {F G : Mx} (hF : IsH n ps F) (hG : IsH n qs G) (hs : ∀ v ∈ latM G, Span (latM F) v) {i : Nat} (hi : i < G.length) : ∃ k, k < F.length ∧ ps.getD k 0 = qs.getD i 0 ∧ eM F k (ps.getD k 0) ∣ eM G i (qs.getD i 0) := by
  have hv : Span (latM F) (vr (G.getD i [])) := hs _ (by rw [getD_get hi]; exact List.mem_map.2 ⟨G[i], List.getElem_mem hi, rfl⟩)
  rw [← wps_rows hF.len] at hv
  have hne : vr (G.getD i []) (qs.getD i 0) ≠ 0 := by
    have : eM G i (qs.getD i 0) ≠ 0 := by have := hG.pos i hi; omega
    exact this
  obtain ⟨g, hg, e, hd⟩ := hF.ech.lead hv hne (fun j hj => hG.left i hi j hj)
  obtain ⟨k, hk, rfl⟩ := wps_mem hF.len hg
  simp only at e hd
  refine ⟨k, hk, e, ?_⟩
  rw [e]
  exact hd
/-- A sublattice of no less rank has the same pivots. -/
theorem same_piv {n : Nat} {ps qs : List Nat} {F G : Mx} (hF : IsH n ps F) (hG : IsH n qs G) (hs : ∀ v ∈ latM G, Span (latM F) v) (hl : F.length ≤ G.length) :
    G.length = F.length ∧ ∀ i, i < F.length → qs.getD i 0 = ps.getD i 0 ∧ eM F i (ps.getD i 0) ∣ eM G i (ps.getD i 0) := by
  have hk : ∀ i, ∃ k, i < G.length → k < F.length ∧ ps.getD k 0 = qs.getD i 0 ∧ eM F k (ps.getD k 0) ∣ eM G i (qs.getD i 0) := fun i => by
    by_cases hi : i < G.length
    · obtain ⟨k, h⟩ := sub_piv hF hG hs hi; exact ⟨k, fun _ => h⟩
    · exact ⟨0, fun h => absurd h hi⟩
  obtain ⟨k, hk⟩ := Classical.axiomOfChoice hk
  have hmono : ∀ i j, i < j → j < G.length → k i < k j := fun i j hij hj => by
    have h1 := hk i (by omega)
    have h2 := hk j hj
    have h3 := hG.inc i j hij hj
    rcases Nat.lt_trichotomy (k i) (k j) with h | h | h
    · exact h
    · rw [h] at h1; omega
    · have := hF.inc (k j) (k i) h h1.1; omega
  have hge : ∀ i, i < G.length → i ≤ k i := by
    intro i
    induction i with
    | zero => intro _; omega
    | succ i ih => intro hi; have := ih (by omega); have := hmono i (i + 1) (by omega) hi; omega
  have hle : ∀ d i, i + d + 1 = G.length → k i + d + 1 ≤ F.length := by
    intro d
    induction d with
    | zero => intro i hi; have := (hk i (by omega)).1; omega
    | succ d ih => intro i hi; have := ih (i + 1) (by omega); have := hmono i (i + 1) (by omega) (by omega); omega
  have hki : ∀ i, i < G.length → k i = i := fun i hi => by
    have := hge i hi
    have := hle (G.length - i - 1) i (by omega)
    omega
  have hlen : G.length = F.length := by
    rcases Nat.eq_zero_or_pos G.length with h | h
    · omega
    · have := (hk (G.length - 1) (by omega)).1
      rw [hki _ (by omega)] at this
      omega
  refine ⟨hlen, fun i hi => ?_⟩
  have h := hk i (by omega)
  rw [hki i (by omega)] at h
  exact ⟨h.2.1.symm, by rw [← h.2.1] at h; exact h.2.2⟩
/-- The product of the quotients of the pivots of the first i rows. -/
def idxN (F G : Mx) : Nat → Int
  | 0 => 1
  | i + 1 => idxN F G i * (eM G i (pv (F.getD i []))).fdiv (eM F i (pv (F.getD i [])))
def pivP (F G : Mx) : Nat → Int
  | 0 => 1
  | i + 1 => pivP F G i * eM G i (pv (F.getD i []))
theorem idxN_mul {F G : Mx} (h0 : ∀ i, i < F.length → 0 < eM F i (pv (F.getD i []))) (hd : ∀ i, i < F.length → eM F i (pv (F.getD i [])) ∣ eM G i (pv (F.getD i []))) : ∀ i, i ≤ F.length → idxN F G i * pivP F F i = pivP F G i
  | 0, _ => rfl
  | i + 1, h => by
    have ih := idxN_mul h0 hd i (by omega)
    have hp := h0 i (by omega)
    obtain ⟨c, hc⟩ := hd i (by omega)
    have hq : (eM G i (pv (F.getD i []))).fdiv (eM F i (pv (F.getD i []))) = c := by rw [hc]; exact Int.mul_fdiv_cancel_left _ (by omega)
    simp only [idxN, pivP]
    rw [hq, ← ih, hc]
    grind
theorem pivP_pos {F : Mx} (h0 : ∀ i, i < F.length → 0 < eM F i (pv (F.getD i []))) : ∀ i, i ≤ F.length → 0 < pivP F F i
  | 0, _ => by simp [pivP]
  | i + 1, h => Int.mul_pos (pivP_pos h0 i (by omega)) (h0 i (by omega))
theorem idxN_abs {F G : Mx} {E : Nat} (h0 : ∀ i, i < F.length → eM F i (pv (F.getD i [])) ≠ 0) (hG : ∀ i, i < F.length → (eM G i (pv (F.getD i []))).natAbs < 2 ^ E) : ∀ i, i ≤ F.length → (idxN F G i).natAbs ≤ 2 ^ (E * i)
  | 0, _ => by simp [idxN]
  | i + 1, h => by
    have ih := idxN_abs h0 hG i (by omega)
    have h1 := fdiv_abs (eM G i (pv (F.getD i []))) (h0 i (by omega))
    have h2 := hG i (by omega)
    rw [idxN, Int.natAbs_mul, Nat.mul_succ, Nat.pow_add]
    exact Nat.mul_le_mul ih (by omega)
end Go.Proofs.YthmhmkkcjlgbjaaGreatDoor
/- the index of multiplied rows -/
namespace Go.Proofs.YthmhmkkcjlgbjaaGreatDoor
open Hnf
def Z0 : V := fun _ => 0
/-- The determinant of up to four rows on the columns P. -/
def detV (P : Nat → Nat) : List V → Int
  | [] => 1
  | [a] => a (P 0)
  | [a, b] => det2 a b (P 0) (P 1)
  | [a, b, c] => det3 a b c (P 0) (P 1) (P 2)
  | [a, b, c, d] => det4 a b c d (P 0) (P 1) (P 2) (P 3)
  | _ => 0
theorem detV_dvd {P : Nat → Nat} {A B : List V} (hl : B.length = A.length) (h4 : A.length ≤ 4) (hs : ∀ v ∈ B, Span A v) : detV P A ∣ detV P B := by
  match A, B, hl, h4 with
  | [], [], _, _ => exact ⟨1, rfl⟩
  | [a], [f], _, _ => exact det1_dvd (hs f (by simp))
  | [a, b], [f, g], _, _ => exact det2_dvd (hs f (by simp)) (hs g (by simp))
  | [a, b, c], [f, g, e], _, _ => exact det3_dvd (hs f (by simp)) (hs g (by simp)) (hs e (by simp))
  | [a, b, c, d], [f, g, e, h], _, _ => exact det4_dvd (hs f (by simp)) (hs g (by simp)) (hs e (by simp)) (hs h (by simp))
  | _ :: _ :: _ :: _ :: _ :: _, _, _, h => simp at h
theorem detV_zero {P : Nat → Nat} {A : List V} (h4 : A.length ≤ 3) : detV P (A ++ [Z0]) = 0 := by
  match A, h4 with
  | [], _ => rfl
  | [a], _ => simp [detV, det2, Z0]
  | [a, b], _ => simp [detV, det3, det2, Z0]
  | [a, b, c], _ => simp [detV, det4, det3, det2, Z0]
  | _ :: _ :: _ :: _ :: _, h => simp at h
def mulV (k : Int) (v : V) : V := fun j => k * v j
def prodL : List Int → Int
  | [] => 1
  | k :: ks => k * prodL ks
theorem detV_mul {P : Nat → Nat} {A : List V} {ks : List Int} (hl : ks.length = A.length) (h4 : A.length ≤ 4) : detV P (List.zipWith mulV ks A) = prodL ks * detV P A := by
  match A, ks, hl, h4 with
  | [], [], _, _ => simp [detV, prodL]
  | [a], [k], _, _ => simp [detV, prodL, mulV]
  | [a, b], [k, l], _, _ => simp only [List.zipWith, detV, prodL, mulV, det2]; grind
  | [a, b, c], [k, l, m], _, _ => simp only [List.zipWith, detV, prodL, mulV, det3, det2]; grind
  | [a, b, c, d], [k, l, m, n], _, _ => simp only [List.zipWith, detV, prodL, mulV, det4, det3, det2]; grind
  | _ :: _ :: _ :: _ :: _ :: _, _, _, h => simp at h
/-- The product of the first i pivots. -/
def prP (P : Nat → Nat) (G : Mx) : Nat → Int
  | 0 => 1
  | i + 1 => prP P G i * eM G i (P i)
theorem detV_tri {P : Nat → Nat} {G : Mx} (h4 : G.length ≤ 4) (h0 : ∀ i k, k < i → i < G.length → eM G i (P k) = 0) : detV P (latM G) = prP P G G.length := by
  match G, h4 with
  | [], _ => rfl
  | [a], _ => simp [detV, latM, prP, eM, vr]
  | [a, b], _ =>
    have z1 := h0 1 0 (by omega) (by simp)
    simp only [eM, List.getD_cons_succ, List.getD_cons_zero] at z1
    simp only [detV, latM, List.map, List.length, prP, eM, det2, vr, List.getD_cons_succ, List.getD_cons_zero, z1]
    grind
  | [a, b, c], _ =>
    have z1 := h0 1 0 (by omega) (by simp)
    have z2 := h0 2 0 (by omega) (by simp)
    have z3 := h0 2 1 (by omega) (by simp)
    simp only [eM, List.getD_cons_succ, List.getD_cons_zero] at z1 z2 z3
    simp only [detV, latM, List.map, List.length, prP, eM, det3, det2, vr, List.getD_cons_succ, List.getD_cons_zero, z1, z2, z3]
    grind
  | [a, b, c, d], _ =>
    have z1 := h0 1 0 (by omega) (by simp)
    have z2 := h0 2 0 (by omega) (by simp)
    have z3 := h0 2 1 (by omega) (by simp)
    have z4 := h0 3 0 (by omega) (by simp)
    have z5 := h0 3 1 (by omega) (by simp)
    have z6 := h0 3 2 (by omega) (by simp)
    simp only [eM, List.getD_cons_succ, List.getD_cons_zero] at z1 z2 z3 z4 z5 z6
    simp only [detV, latM, List.map, List.length, prP, eM, det4, det3, det2, vr, List.getD_cons_succ, List.getD_cons_zero, z1, z2, z3, z4, z5, z6]
    grind
  | _ :: _ :: _ :: _ :: _ :: _, h => simp at h
theorem prP_pos {P : Nat → Nat} {G : Mx} : ∀ i, i ≤ G.length → (∀ k, k < G.length → 0 < eM G k (P k)) → 0 < prP P G i
  | 0, _, _ => by simp [prP]
  | i + 1, h, hp => Int.mul_pos (prP_pos i (by omega) hp) (hp i (by omega))
theorem IsH.tri {n : Nat} {ps : List Nat} {F : Mx} (h : IsH n ps F) : ∀ i k, k < i → i < F.length → eM F i (ps.getD k 0) = 0 := fun i k hki hi => h.left i hi _ (h.inc k i hki hi)
theorem IsH.det {n : Nat} {ps : List Nat} {F : Mx} (h : IsH n ps F) (h4 : F.length ≤ 4) : detV (fun i => ps.getD i 0) (latM F) = prP (fun i => ps.getD i 0) F F.length ∧ 0 < prP (fun i => ps.getD i 0) F F.length :=
  ⟨detV_tri h4 h.tri, prP_pos _ (Nat.le_refl _) h.pos⟩
/-- A form has no more rows than what spans a multiple of each of its rows. -/
theorem rank_le {n : Nat} {ps : List Nat} {F G : Mx} {N : Int} (h : IsH n ps F) (h4 : F.length ≤ 4) (hN : N ≠ 0) (hs : ∀ v ∈ latM F, Span (latM G) (mulV N v)) : F.length ≤ G.length := by
  rcases Nat.lt_or_ge G.length F.length with hlt | hge
  · exfalso
    obtain ⟨X, hX, hXl⟩ : ∃ X : List V, (∀ v ∈ latM G, v ∈ X) ∧ X.length + 1 = F.length := by
      refine ⟨latM G ++ List.replicate (F.length - G.length - 1) Z0, fun v hv => List.mem_append_left _ hv, ?_⟩
      rw [List.length_append, List.length_replicate, latM, List.length_map]; omega
    have hd : detV (fun i => ps.getD i 0) (X ++ [Z0]) ∣ detV (fun i => ps.getD i 0) (List.zipWith mulV (List.replicate F.length N) (latM F)) := by
      refine detV_dvd ?_ (by simp; omega) fun v hv => ?_
      · simp [latM]; omega
      · obtain ⟨i, hi, rfl⟩ := List.getElem_of_mem hv
        have hiF : i < (latM F).length := by rw [List.length_zipWith] at hi; omega
        rw [List.getElem_zipWith]
        have := hs (latM F)[i] (List.getElem_mem hiF)
        rw [List.getElem_replicate]
        exact this.mono fun r hr => List.mem_append_left _ (hX r hr)
    rw [detV_zero (by omega), detV_mul (by simp [latM]) (by simp [latM]; omega)] at hd
    obtain ⟨h1, h2⟩ := h.det h4
    have hp : ∀ m, prodL (List.replicate m N) ≠ 0 := fun m => by
      induction m with
      | zero => simp [prodL]
      | succ m ih => rw [List.replicate_succ, prodL]; exact Int.mul_ne_zero hN ih
    rw [Int.zero_dvd, h1] at hd
    exact Int.mul_ne_zero (hp _) (by omega) hd
  · exact hge
theorem idxN_prP {n : Nat} {ps : List Nat} {F G : Mx} (h : IsH n ps F) : ∀ i, i ≤ F.length → pivP F G i = prP (fun i => ps.getD i 0) G i
  | 0, _ => rfl
  | i + 1, hi => by
    have e : pv (F.getD i []) = ps.getD i 0 := by
      rw [isH_pv h, getD_map pv F i (by omega) 0 []]
    rw [pivP, prP, idxN_prP h i (by omega), e]
theorem mulV_span {M : List V} {v : V} (k : Int) (h : Span M v) : Span M (mulV k v) := by
  have e : mulV k v = Hnf.sub (fun _ => 0) (-k) v := by funext j; simp only [mulV, Hnf.sub]; grind
  rw [e]; exact Span.sub _ .zero h
theorem scale_span {ks : List Int} {A : List V} : ∀ v ∈ List.zipWith mulV ks A, Span A v := fun v hv => by
  obtain ⟨i, hi, rfl⟩ := List.getElem_of_mem hv
  rw [List.getElem_zipWith]
  exact mulV_span _ (.mem (List.getElem_mem _))
theorem prodL_dvd : ∀ {ks : List Int} {k : Int}, k ∈ ks → ∃ c, prodL ks = c * k
  | k :: ks, _, .head _ => ⟨prodL ks, by rw [prodL]; exact Int.mul_comm _ _⟩
  | l :: ks, k, .tail _ h => by
    obtain ⟨c, hc⟩ := prodL_dvd h
    exact ⟨l * c, by rw [prodL, hc, Int.mul_assoc]⟩
theorem prodL_ne : ∀ {ks : List Int}, (∀ k ∈ ks, k ≠ 0) → prodL ks ≠ 0
  | [], _ => by simp [prodL]
  | k :: ks, h => by rw [prodL]; exact Int.mul_ne_zero (h k (by simp)) (prodL_ne fun l hl => h l (by simp [hl]))
theorem dvd_abs {a b : Int} (h : a ∣ b) (h' : b ∣ a) : a.natAbs = b.natAbs := Nat.dvd_antisymm (Int.natAbs_dvd_natAbs.2 h) (Int.natAbs_dvd_natAbs.2 h')
/-- The law: S has the rows of M, multiplied. -/
theorem sub_law {n : Nat} {M S F G : Mx} {ks : List Int} (hn : n ≤ 4) (hm : M.length ≤ 4) (hl : ks.length = M.length) (hk : ∀ k ∈ ks, k ≠ 0) (hS : latM S = List.zipWith mulV ks (latM M)) (hF : HnfOf n M F) (hG : HnfOf n S G) :
    F.length ≤ G.length ∧ (F.length = M.length → idxN F G F.length = (prodL ks).natAbs) := by
  obtain ⟨⟨ps, hF⟩, f1, f2⟩ := hF
  obtain ⟨⟨qs, hG⟩, g1, g2⟩ := hG
  have hlM : ks.length = (latM M).length := by rw [latM, List.length_map]; exact hl
  have hF4 : F.length ≤ 4 := by
    rcases Nat.lt_or_ge 4 F.length with h | h
    · have a0 := hF.inc 0 1 (by omega) (by omega)
      have a1 := hF.inc 1 2 (by omega) (by omega)
      have a2 := hF.inc 2 3 (by omega) (by omega)
      have a3 := hF.inc 3 4 (by omega) (by omega)
      have a4 := hF.lt 4 (by omega)
      omega
    · exact h
  have hsub : ∀ v ∈ latM S, Span (latM M) v := by rw [hS]; exact scale_span
  have hmul : ∀ v ∈ latM M, Span (latM S) (mulV (prodL ks) v) := fun v hv => by
    obtain ⟨i, hi, rfl⟩ := List.getElem_of_mem hv
    have hki : i < ks.length := by omega
    obtain ⟨c, hc⟩ := prodL_dvd (List.getElem_mem hki)
    have : mulV (prodL ks) (latM M)[i] = mulV c (mulV ks[i] (latM M)[i]) := by
      funext j; simp only [mulV]; rw [hc, Int.mul_assoc]
    rw [this]
    refine mulV_span _ (.mem ?_)
    rw [hS]
    have : mulV ks[i] (latM M)[i] = (List.zipWith mulV ks (latM M))[i]'(by simp; omega) := by rw [List.getElem_zipWith]
    rw [this]; exact List.getElem_mem _
  have hNe := prodL_ne hk
  have hle : F.length ≤ G.length := by
    refine rank_le hF hF4 hNe fun v hv => ?_
    have h1 : Span (latM S) (mulV (prodL ks) v) := by
      have := f1 v hv
      clear hv
      induction this with
      | zero => exact mulV_span _ .zero
      | @step v r q h hr ih =>
        have e : mulV (prodL ks) (Hnf.sub v q r) = Hnf.sub (mulV (prodL ks) v) q (mulV (prodL ks) r) := by
          funext j; simp only [mulV, Hnf.sub]; grind
        rw [e]
        exact Span.sub _ ih (hmul r hr)
    exact h1.trans g2
  refine ⟨hle, fun hFM => ?_⟩
  have hGF : ∀ v ∈ latM G, Span (latM F) v := fun v hv => ((g1 v hv).trans hsub).trans f2
  obtain ⟨hlen, hpq⟩ := same_piv hF hG hGF hle
  obtain ⟨P, hP⟩ : ∃ P : Nat → Nat, P = fun i => ps.getD i 0 := ⟨_, rfl⟩
  have dF := hF.det hF4
  rw [← hP] at dF
  have dM : (detV P (latM M)).natAbs = (detV P (latM F)).natAbs :=
    dvd_abs (detV_dvd (by simp [latM, hFM]) (by simp [latM]; omega) f1) (detV_dvd (by simp [latM, hFM]) (by simp [latM]; omega) f2)
  have hSl : S.length = M.length := by
    have := congrArg List.length hS
    simp [latM] at this; omega
  have dG : (detV P (latM G)).natAbs = (detV P (latM S)).natAbs :=
    dvd_abs (detV_dvd (by simp [latM]; omega) (by simp [latM]; omega) g2) (detV_dvd (by simp [latM]; omega) (by simp [latM]; omega) g1)
  rw [hS, detV_mul hlM (by simp [latM]; omega), Int.natAbs_mul, dM] at dG
  have tG : detV P (latM G) = prP P G G.length := detV_tri (by omega) fun i k hki hi => by
    have := hG.tri i k hki hi
    rw [(hpq k (by omega)).1] at this
    rw [hP]; exact this
  have pG : 0 < prP P G G.length := prP_pos _ (Nat.le_refl _) fun k hk' => by
    have := hG.pos k hk'
    rw [(hpq k (by omega)).1] at this
    rw [hP]; exact this
  have hpv : ∀ i, i < F.length → pv (F.getD i []) = ps.getD i 0 := fun i hi => by rw [isH_pv hF, getD_map pv F i hi 0 []]
  have hm1 := idxN_mul (F := F) (G := G) (fun i hi => by rw [hpv i hi]; exact hF.pos i hi) (fun i hi => by rw [hpv i hi]; exact (hpq i hi).2) F.length (Nat.le_refl _)
  rw [idxN_prP hF _ (Nat.le_refl _), idxN_prP hF _ (Nat.le_refl _), ← hP] at hm1
  rw [tG, hlen, dF.1] at dG
  rw [hlen] at pG
  have hpos := dF.2
  generalize prP P F F.length = A at *
  generalize prP P G F.length = B at *
  have hB : B = (prodL ks).natAbs * A := by
    generalize (prodL ks).natAbs = Q at *
    have h1 : (B.natAbs : Int) = (Q : Int) * (A.natAbs : Int) := by rw [dG, Int.natCast_mul]
    rw [Int.natAbs_of_nonneg (by omega), Int.natAbs_of_nonneg (by omega)] at h1
    exact h1
  rw [hB] at hm1
  exact Int.eq_of_mul_eq_mul_right (by omega) hm1
end Go.Proofs.YthmhmkkcjlgbjaaGreatDoor
/- hermite: Index (of what is right) -/
namespace Go.Proofs.YthmhmkkcjlgbjaaGreatDoor
open Go.RowKit Go.Sort
theorem I_one : I 1 = .string ⟨#[49]⟩ := by unfold I S; rw [show (1 : Int) = ((1 : Nat) : Int) from rfl, itoa_nat, Lib.decDigits]; rfl
/-- What Index returns. -/
def IxPost (w : World) (F S : Mx) (e : Ending) (w' : World) : Prop :=
  (if inclB F S then ∃ G, HnfOf (ncols S) S G ∧ (if G.length < F.length then e = .returned (.tuple #[.string ⟨#[]⟩, .bool false, .int .i64 0]) else e = .returned (.tuple #[I (idxN F G F.length), .bool true, .int .i64 0]))
   else e = .returned (.tuple #[.string ⟨#[]⟩, .bool false, .int .i64 14])) ∧ Ext w w'
set_option maxRecDepth 100000 in
set_option maxHeartbeats 1000000 in
theorem Index_ok {w : World} {vf vs : Value} {F S : Mx} (hF : MatR w vf F) (hS : MatR w vs S) (hp : pairE F S = 0) (hk : 13 * (bC S.length 30 (ncols S) + 2) < LIM) (hL : Laid w) :
    Calls Tryz.prog 14 #[vf, vs] w (IxPost w F S) := by
  have hpa := Lib.hid (pair_ok hF hS hp)
  have hin := Lib.hid (fun W (hW : Ext w W) => includes_any (hF.ext hW) (hS.ext hW) hp (hL.ext hW))
  obtain ⟨hc1, hc2, hi1, hcols⟩ := pairE_ok hp
  obtain ⟨hm12, hn12, hrect, hent⟩ := checkM_ok hc1
  obtain ⟨hs12, ht12, hrectS, hentS⟩ := checkM_ok hc2
  have HS := Lib.hid hS
  have HL := Lib.hid hL
  have HF := Lib.hid hF
  have hisH := isF_isH hrect hi1
  have HisH := Lib.hid hisH
  have HRS := Lib.hid hrectS
  have HRF := Lib.hid hrect
  have HeS := Lib.hid hentS
  have HeF := Lib.hid hent
  have Hk := Lib.hid hk
  have Hcols := Lib.hid hcols
  obtain ⟨sf, bf, of, cf, us, rfl, hcf, hul, hUl, hru⟩ := hF
  have HUl := Lib.hid hUl
  have Hul := Lib.hid hul
  have Hru := Lib.hid hru
  clear hS hp hL hc1 hc2 hi1 hrect hent hrectS hentS hk hisH hcols hul hUl hru
  cases hb : inclB F S
  · rw [hb] at hin
    have Hb := Lib.hid hb
    clear hb
    go_enter Tryz.func14, Tryz.ntmps14
    go_wp2_with fail
    refine hpa.out.mono ?_
    rintro e w1 ⟨rfl, hE1⟩
    go_wp2_with fail
    refine (hin.out _ hE1).mono ?_
    rintro e w2 ⟨rfl, hE2⟩
    go_wp2_with fail
    go_ret3
    refine ⟨?_, hE1.trans hE2⟩
    rw [if_neg (by rw [Hb.out]; decide)]; rfl
  · rw [hb] at hin
    have Hb := Lib.hid hb
    clear hb
    have hli := Lib.hid (fun W (hW : Ext w W) => lines_any (n := ncols S) (HS.out.ext hW) HRS.out (by omega) (by omega) (fun r hr z hz => by have := HeS.out r hr z hz; unfold I64; omega) (HL.out.ext hW))
    have hcol := Lib.hid (fun W (hW : Ext w W) => columns_any (HS.out.ext hW))
    go_enter Tryz.func14, Tryz.ntmps14
    go_wp2_with fail
    refine hpa.out.mono ?_
    rintro e w1 ⟨rfl, hE1⟩
    go_wp2_with fail
    refine (hin.out _ hE1).mono ?_
    rintro e w2 ⟨rfl, hE2⟩
    have hEw2 := hE1.trans hE2
    go_wp2_with fail
    refine (hli.out _ hEw2).mono ?_
    rintro e w3 ⟨v3, ad, rfl, hV, hE3⟩
    have hEw3 := hEw2.trans hE3
    clear hpa hin hli
    have hsh : ∃ ga cp, v3 = .slice ga S.length cp ∧ S.length ≤ cp ∧ (0 < S.length → ∃ g, ga = some ⟨g, 0, none⟩) := by
      have hr := hV.row
      rw [lines0_length] at hr
      rcases hr.2 with ⟨rfl, h0⟩ | ⟨g, cap, cur, rfl, hb, hg, hn, hm, hs, ht⟩
      · rw [h0]; exact ⟨none, 0, rfl, Nat.le_refl _, fun h => by omega⟩
      · exact ⟨_, cap, rfl, hn, fun _ => ⟨g, rfl⟩⟩
    obtain ⟨ga, cp, rfl, hcp, hgs⟩ := hsh
    have HV := Lib.hid hV
    clear hV
    by_cases hn0 : ncols S = 0
    · rw [hn0] at hcol
      have HG := Lib.hid (hnf_nil (M := S) (by rw [← hn0]; exact HRS.out))
      rw [← hn0] at HG
      clear hn0
      by_cases hF0 : 0 < F.length
      · have hF0i : (0 : Int) < (F.length : Int) := by omega
        go_wp2_with fail
        refine (hcol.out _ hEw3).mono ?_
        rintro e w4 ⟨rfl, hE4⟩
        go_wp2_with fail
        refine (echelon_zero rfl).mono ?_
        rintro e w5 ⟨rfl, rfl⟩
        go_wp2_with fail
        go_ret3
        refine ⟨?_, hEw3.trans hE4⟩
        rw [if_pos Hb.out]
        refine ⟨[], HG.out, ?_⟩
        rw [if_pos (by simpa using hF0)]; rfl
      · have hF0n : F.length = 0 := by omega
        rw [hF0n] at hcf ⊢
        have hI1 := I_one
        have HI1 := Lib.hid hI1
        have HF0 := Lib.hid hF0n
        clear hF0n hF0 hI1
        go_wp2_with fail
        refine (hcol.out _ hEw3).mono ?_
        rintro e w4 ⟨rfl, hE4⟩
        go_wp2_with fail
        refine (echelon_zero rfl).mono ?_
        rintro e w5 ⟨rfl, rfl⟩
        go_wp2_with fail
        go_loopw [4, 36] (fun out idx wr => idx = .int .i64 0 ∧ out = .string ⟨#[49]⟩ ∧ wr = w5) (fun _ _ _ => 0)
        case atStart => exact ⟨rfl, rfl, rfl⟩
        case round =>
          obtain ⟨rfl, rfl, hwr⟩ := hrel
          subst hwr
          go_wp2_with fail
          go_ret3
          refine ⟨?_, hEw3.trans hE4⟩
          rw [if_pos Hb.out]
          refine ⟨[], HG.out, ?_⟩
          rw [if_neg (by rw [HF0.out]; simp), HF0.out, show idxN F [] 0 = 1 from rfl, HI1.out]; rfl
    · have hnp : 0 < ncols S := by omega
      have hmp : 0 < S.length := by
        rcases Nat.eq_zero_or_pos S.length with h | h
        · have : S = [] := List.eq_nil_of_length_eq_zero h
          rw [this] at hn0; exact absurd rfl hn0
        · exact h
      obtain ⟨g, rfl⟩ := hgs hmp
      have hlns : Lns w2.heap.size w3 g ad (lines0 S) := by
        have := HV.out
        have h2 : LnsV w2.heap.size w3 (slv g (lines0 S).length cp) ad (lines0 S) (ncols S) S.length := by rw [lines0_length]; exact this
        exact h2.lns hnp
      have Hlns := Lib.hid hlns
      have hech := Lib.hid (fun W (hW : Ext w3 W) => echelon_walk (w0 := w2) (w := W) (g := g) (cp := cp) (n := ncols S) (m := S.length) (L := S.length) (k := 30) (by simp) (by omega) hcp (by omega) (by omega) (Hlns.out.ext hW) (lines0_dim HRS.out) (lines0_all HeS.out) (by have := Hk.out; omega) (HL.out.ext hEw2) (hE3.trans hW))
      clear hlns hgs hn0
      go_wp2_with fail
      refine (hcol.out _ hEw3).mono ?_
      rintro e w4 ⟨rfl, hE4⟩
      go_wp2_with fail
      refine (hech.out _ hE4).mono ?_
      rintro e w5 ⟨d, ps, ad', ls', rfl, hL5, hF5, hO5, hA5, hE5⟩
      have HnF := form_of HRS.out hO5 hF5
      have hdl := hF5.le
      have hll : ls'.length = S.length := by rw [hO5.length]; simp
      have hGl := fRows_length hdl
      have hen := fun i (h : i < d) j => eM_fRows (d := d) (ls := ls') h j hdl
      have Hdim := Lib.hid ((lines0_dim HRS.out).ops hO5)
      have HA5 := Lib.hid hA5
      have Hll := Lib.hid hll
      have hEw5 := hEw2.trans hE5
      obtain ⟨G, hG⟩ : ∃ G, G = fRows d ls' := ⟨_, rfl⟩
      rw [← hG] at HnF hGl
      have Hen := Lib.hid (fun i (h : i < d) j => show eM G i j = en ls' i j by rw [hG]; exact hen i h j)
      have HG := Lib.hid HnF
      have HGl := Lib.hid hGl
      have hdS : d ≤ S.length := by omega
      clear hech hcol hO5 hF5 hA5 Hlns HV hdl hll hen hG HnF hGl
      by_cases hdF : d < F.length
      · have hdFi : (d : Int) < (F.length : Int) := by omega
        go_wp2_with fail
        go_ret3
        refine ⟨?_, hEw5⟩
        rw [if_pos Hb.out]
        exact ⟨G, HG.out, by rw [if_pos (by rw [HGl.out]; exact hdF)]; rfl⟩
      · have hdFi : (F.length : Int) ≤ (d : Int) := by omega
        have hI1 := I_one
        have HI1 := Lib.hid hI1
        have hdd : decide (d < F.length) = false := decide_eq_false hdF
        have hdd2 : decide ((d : Int) < (F.length : Int)) = false := decide_eq_false (by omega)
        clear hI1 hdF
        have hEk : bC S.length 30 (ncols S) * 13 + 26 < LIM := by have := Hk.out; omega
        have HEk := Lib.hid hEk
        have hnd : ∀ i, i ≤ F.length → nd (idxN F G i) ≤ bC S.length 30 (ncols S) * 12 + 2 := fun i hi => by
          have h1 := idxN_abs (F := F) (G := G) (E := bC S.length 30 (ncols S)) (fun t ht => (HisH.out.piv t ht)) (fun t ht => by
            rw [Hen.out t (by omega)]
            exact (HA5.out t (by rw [Hll.out]; have := Hdim.out; omega)).col (Q := fun z => z.natAbs < 2 ^ _) (Nat.pow_pos (by omega)) _) i hi
          have h2 : (idxN F G i).natAbs < 2 ^ (bC S.length 30 (ncols S) * i + 1) := by
            rw [Nat.pow_succ]
            have := Nat.pow_pos (a := 2) (n := bC S.length 30 (ncols S) * i) (by omega)
            omega
          have h3 := nd_lt2 h2
          have h4 : bC S.length 30 (ncols S) * i ≤ bC S.length 30 (ncols S) * 12 := Nat.mul_le_mul_left _ (by omega)
          omega
        have Hnd := Lib.hid hnd
        clear hEk hnd
        go_wp2_with fail
        go_loopw [4, 36] (fun out idx wr => ∃ i : Nat, i ≤ F.length ∧ idx = .int .i64 i ∧ Hid (out = I (idxN F G i)) ∧ Ext w5 wr) (fun _ idx _ => F.length - (intOf idx).toNat)
        case atStart => exact ⟨0, by omega, by go_num, Lib.hid (by rw [show idxN F G 0 = 1 from rfl, HI1.out]), Ext.refl _⟩
        case round =>
          obtain ⟨i, hi, rfl, hO, hE6⟩ := hrel
          have hO' := hO.out
          subst hO'
          clear hO
          generalize wr = X at *
          by_cases hlt : i < F.length
          · have hii : (i : Int) < (F.length : Int) := by omega
            obtain ⟨sr, br, or, cr, hrow, hrc, hSr⟩ := MatR.row HUl.out Hul.out Hru.out hlt
            obtain rfl := HUl.out.addr (by rw [Hul.out]; omega)
            have hnS : ncols S = ncols F := Hcols.out (by omega) hmp
            have hrl : F[i].length = ncols F := HRF.out _ (List.getElem_mem hlt)
            have hFd : F.getD i [] = F[i] := getD_get hlt []
            have hpl : pv F[i] < ncols F := by
              have := HisH.out.lt i hlt
              rwa [getD_map pv F i hlt 0 [], hFd] at this
            have hpI : pvI F[i] = (pv F[i] : Int) := by unfold pvI; rw [if_pos (by rw [hrl]; exact hpl)]
            have hpne : F[i].getD (pv F[i]) 0 ≠ 0 := by have := HisH.out.piv i hlt; rwa [hFd] at this
            have hrow' := (hEw5.trans hE6).cell hrow
            rw [hrl] at hrow'
            have hpc := Lib.hid (fun W (hW : Ext w W) => pivot_any (w := W) (v := .slice sr (ncols F) cr) (r := F[i]) ⟨sr, br, or, cr, by rw [hrl], hrc, hSr.ext hW⟩ (by omega))
            rw [hpI] at hpc
            have hcr := hSr.cell (pv F[i]) (.int .i64 (F[i].getD (pv F[i]) 0)) (by rw [getD_get (by omega)]; exact is_get (by omega))
            obtain rfl := hSr.addr (by rw [is_length]; omega)
            obtain ⟨gx, cx, gy, cy, ead, c1, c2, cz, o1, o2, _, _, _⟩ := (hL5.ext hE6).ln (d := 0) (c := pv F[i]) (i := i) (o := i * 2) Hdim.out (by rw [Hll.out]; omega) (by omega) (by omega)
            have hen : cols (pv F[i]) 0 ls' i = eM G i (pv F[i]) := by
              rw [Hen.out i (by omega)]; unfold cols en; rw [Nat.zero_add]
            rw [hen] at cz
            have hbig := (HA5.out i (by rw [Hll.out]; omega)).col (Q := fun z => z.natAbs < 2 ^ (bC S.length 30 (ncols S))) (Nat.pow_pos (by omega)) (pv F[i])
            have hen2 : col (pv F[i]) (ls'.getD i default) = eM G i (pv F[i]) := by rw [Hen.out i (by omega)]; rfl
            rw [hen2] at hbig
            have hst : idxN F G (i + 1) = idxN F G i * (eM G i (pv F[i])).fdiv (F[i].getD (pv F[i]) 0) := by
              rw [idxN, hFd]; unfold eM; rw [hFd]
            have hen64 := HeF.out _ (List.getElem_mem hlt) (F[i].getD (pv F[i]) 0) (by rw [getD_get (by omega)]; exact List.getElem_mem _)
            obtain ⟨p, hp⟩ : ∃ p, p = pv F[i] := ⟨_, rfl⟩
            rw [← hp] at hpl hpc hcr cz hbig hst hpne hen64
            obtain ⟨b, hb⟩ : ∃ b, b = F[i].getD p 0 := ⟨_, rfl⟩
            obtain ⟨a, ha⟩ : ∃ a, a = eM G i p := ⟨_, rfl⟩
            obtain ⟨m, hm⟩ : ∃ m, m = idxN F G i := ⟨_, rfl⟩
            rw [← hb] at hcr hst hpne hen64
            rw [← ha] at cz hbig hst
            rw [← hm] at hst ⊢
            have hqn := fdiv_abs a hpne
            have hna := nd_lt2 hbig
            have hnq : nd (a.fdiv b) ≤ bC S.length 30 (ncols S) + 1 := nd_lt2 (Nat.lt_of_le_of_lt hqn hbig)
            have hnm : nd m ≤ bC S.length 30 (ncols S) * 12 + 2 := by rw [hm]; exact Hnd.out i (by omega)
            have hnb : nd b < LIM := by
              have h30 : b.natAbs < 2 ^ 30 := by
                have e : (2 : Nat) ^ 30 = 1073741824 := by decide
                rw [e]; omega
              have := nd_lt2 h30; unfold LIM; omega
            have Hdm := Lib.hid (fun W (hW : Ext w W) => DivMod_any (a := a) (b := b) (w := W) (by have := HEk.out; omega) hnb hpne (HL.out.ext hW))
            have Hmu := Lib.hid (fun W (hW : Ext w W) => Mul_any (a := m) (b := a.fdiv b) (w := W) (by have := HEk.out; omega) (HL.out.ext hW))
            have Hof := Lib.hid (fun W (hW : Ext w W) => wholeOf_any (n := b) (w := W) (by omega) (by omega) (HL.out.ext hW))
            have Hst := Lib.hid hst
            have hEwX := hEw5.trans hE6
            have hcr2 := hEwX.cell hcr
            have hpi : (p : Int) < (ncols F : Int) := by omega
            have hpi2 : (p : Int) < (ncols S : Int) := by omega
            have hiS : (i : Int) < (S.length : Int) := by omega
            have lgx := o1.lt.2
            clear hrow hrc hSr hrl hFd hpI hpne hcr ead c2 o1 o2 hen hbig hen2 hst hen64 hb ha hm hqn hna hnq hnm hnb hp hnS
            go_wp2_with fail
            refine (hpc.out _ hEwX).mono ?_
            rintro e W ⟨rfl, hW⟩
            have k1 := cell_regrown (hW.cell hcr2)
            have k2 := cell_regrown (hW.cell c1)
            have k3 := cell_regrown (hW.cell cz)
            have hwW := hEwX.trans hW
            have bO := Lib.hid (quietC (w := W) (fun V hV => Hof.out V (hwW.trans hV)))
            have bD := Lib.hid (quietC (w := W) (fun V hV => Hdm.out V (hwW.trans hV)))
            go_wp2_with fail
            refine wp_region_quiet_below (by kernel_rfl) (by kernel_rfl) ?_
            repeat (quiet_step (first | exact bO.out _ _ | exact bD.out _ _))
            refine wpQuiet_nil ?_
            intro _ hw'
            obtain ⟨⟨dq, osq⟩, hw''⟩ := hw'
            subst hw''
            have hW2 := hW.trans (ext_regrown W dq osq)
            clear k1 k2 k3 bO bD Hdm Hof hpc
            generalize hW6 : grow (redrawn _ _) _ = W6 at *
            clear hW6
            go_wp2_with fail
            refine (Hmu.out _ (hEwX.trans hW2)).mono ?_
            rintro e W7 ⟨rfl, hW7⟩
            go_wp2_with fail
            go_roundw
            case rel => exact ⟨i + 1, by omega, by go_num, Lib.hid (by rw [Hst.out]), (hE6.trans hW2).trans hW7⟩
            case measure => simp [intOf] <;> omega
          · have hie : i = F.length := by omega
            subst hie
            go_wp2_with fail
            go_ret3
            refine ⟨?_, hEw5.trans hE6⟩
            rw [if_pos Hb.out]
            exact ⟨G, HG.out, by rw [if_neg (by rw [HGl.out]; omega)]; rfl⟩
end Go.Proofs.YthmhmkkcjlgbjaaGreatDoor
