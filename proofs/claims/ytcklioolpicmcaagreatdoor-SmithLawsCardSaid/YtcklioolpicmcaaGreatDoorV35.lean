/- Part 35 of the proof of the claim: contracts of the functions that it reaches, and plain laws; no condition. -/
import Derived.Test.YtcklioolpicmcaaGreatDoorV21
import Derived.Test.YtcklioolpicmcaaGreatDoorV34
import Derived.Test.YtcklioolpicmcaaGreatDoorV15
import Derived.Test.YtcklioolpicmcaaGreatDoorV14
import Derived.Test.YtcklioolpicmcaaGreatDoorV32
import Derived.BigQuiet
/- schismalaw08: Make, its rows in blocks of their own -/
namespace Go.Proofs.YtcklioolpicmcaaGreatDoor
open Go.RowKit Go.Sort
theorem MatX.mono {B B' : Nat} {w : World} {v : Value} {n : Nat} {F : Mx} {ad : List (Nat × Nat)} (h : MatX B w v n F ad) (hB : B' ≤ B) : MatX B' w v n F ad :=
  ⟨h.len, h.rect, ownsRow_mono h.own hB, fun i a b => (h.row i a b).mono hB, h.dis⟩
set_option maxRecDepth 100000 in
set_option maxHeartbeats 2000000 in
theorem Make08X_any {w : World} {cs : Array Value} {R C : Nat} {es : List Int} (hG : ShapeV cs R C es) :
    Calls Tryz.prog 16 #[.agg cs] w fun e w' => ∃ v, e = .returned v ∧ (∃ ad, MatX w.heap.size w' v (C % 4) (shM es (C % 4) (R % 4)) ad) ∧ Ext w w' := by
  have h0 := sh_cell (w := w) (T := 25) hG.c0
  have h1 := sh_cell (w := w) (T := 25) hG.c1
  have Hent := Lib.hid (fun j hj => sh_cell (w := w) (T := 25) (hG.ent j hj))
  have Hrng := Lib.hid hG.rng
  have hR := hG.r8
  have hC := hG.c8
  have hEw := (Ext.refl w).alloc (.cells cs 25)
  have hsz : w.heap.size < (w.alloc (.cells cs 25)).heap.size := by simp
  obtain ⟨i0, hi, hz0, hz1, hz2⟩ := info_parts Tryz.infoInt
  obtain ⟨m, hm⟩ : ∃ m, m = R % 4 := ⟨_, rfl⟩
  obtain ⟨n, hn⟩ : ∃ n, n = C % 4 := ⟨_, rfl⟩
  have hmI : (R : Int) % 4 = (m : Int) := by omega
  have hnI : (C : Int) % 4 = (n : Int) := by omega
  have hm4 : m < 4 := by omega
  have hn4 : n < 4 := by omega
  rw [← hm, ← hn]
  clear hm hn hG
  go_enter Tryz.func16, Tryz.ntmps16
  go_wp2_with fail
  generalize (w.alloc (.cells cs 25)) = V at *
  go_loopw [3, 4] (fun out idx wr => ∃ i : Nat, i ≤ m ∧ idx = .int .i64 i ∧ Hid (∃ ad, MatX V.heap.size wr out n (shM es n i) ad) ∧ Ext V wr) (fun _ idx _ => m - (intOf idx).toNat)
  case atStart => exact ⟨0, by omega, by go_num, Lib.hid ⟨[], MatX.nil _ _ _⟩, Ext.refl _⟩
  case round =>
    obtain ⟨i, hi', rfl, hO, hE⟩ := hrel
    generalize wr = X at *
    have h0X := hE.cell h0
    have h1X := hE.cell h1
    by_cases hlt : i < m
    · have hii : (i : Int) < (m : Int) := by omega
      go_wp2_with (at_make; refine wpList_make_full _ rfl _ _ 32 rfl X.heap.size 3 i0 (.int .i64 0) 1 Tryz.underlying32 hi hz0 hz1 .i64 .i64 _ _ n rfl rfl (by omega) (by omega) (by rw [hz2]; omega) (by unfold maxLen; omega) (Nat.le_refl _) ?_; intro w1 hown1 hgrow1)
      have hEm := ext_grown hgrow1
      obtain ⟨gx, hgx⟩ : ∃ gx, gx = X.heap.size := ⟨_, rfl⟩
      have hb0 : OwnV 3 X.heap.size w1 X.heap.size n (is (List.replicate n 0)) := row_ownV (zero_row hown1) (by simp)
      rw [← hgx] at hb0 ⊢
      have HO1 := Lib.hid hb0
      have hgle : X.heap.size ≤ gx := by omega
      have hVX := hE.size
      have Hgx := Lib.hid hgx
      clear hown1 hgrow1 hb0 hgx
      go_wp2_with fail
      go_loopw [6] (fun kv wr => ∃ k : Nat, k ≤ n ∧ kv = .int .i64 k ∧ Hid (OwnV 3 gx wr gx n (is (shTo es n i k))) ∧ Ext X wr) (fun kv _ => n - (intOf kv).toNat)
      case atStart => exact ⟨0, by omega, by go_num, Lib.hid (by rw [shTo_zero]; exact HO1.out), hEm⟩
      case round =>
        obtain ⟨k, hk, rfl, hI, hEX⟩ := hrel
        generalize wr = Y at *
        by_cases hlt2 : k < n
        · have hki : (k : Int) < (n : Int) := by omega
          obtain ⟨z, hz⟩ : ∃ z, z = es.getD (3 * i + k) 0 := ⟨_, rfl⟩
          have cz := (hE.trans hEX).cell (Hent.out (3 * i + k) (by omega))
          rw [← hz] at cz
          have hzr := Hrng.out (3 * i + k) (by omega)
          rw [← hz] at hzr
          have hset := shTo_set es (i := i) hlt2
          have he : shE es i k = z.tmod 10 := by unfold shE; rw [hz]
          rw [he] at hset
          have Hset := Lib.hid hset
          have hi3 : (3 * (i : Int) + k) < 9 := by omega
          have hq : -9 ≤ z.tmod 10 ∧ z.tmod 10 ≤ 9 := by rw [← he]; exact shE_b es i k
          obtain ⟨u, hu⟩ := (show ∃ u, Y.cell? ⟨gx, k, none⟩ = some u from ⟨_, hI.out.cell (j := k) (by rw [is_length, shTo_length es (by omega)]; exact hlt2)⟩)
          have fz := hI.out.frozen k
          obtain ⟨hO6, hG6⟩ := hI.out.set k (.int .i64 (z.tmod 10))
          rw [← is_set, Hset.out] at hO6
          have HO6 := Lib.hid hO6
          have hE6 := Lib.hid (ext_trans_grown hEX hG6 hgle)
          clear hO6 hG6 hz hset he
          go_wp2_with fail
          go_roundw
          case rel => exact ⟨k + 1, by omega, by go_num, HO6, hE6.out⟩
          case measure => simp [intOf] <;> omega
        · have hke : k = n := by omega
          have hki : ¬ (k : Int) < (n : Int) := by omega
          have HR := Lib.hid (show OwnV 3 V.heap.size Y gx n (is (shRow es n i)) by
            have h2 := hI.out
            rw [hke, shTo_all] at h2
            exact h2.mono (show V.heap.size ≤ gx by omega))
          obtain ⟨ad, hO0⟩ := hO.out
          have Hnew := Lib.hid (show ∀ a ∈ ad, a.1 ≠ gx from fun a ha => by have := hO0.lt a ha; have := Hgx.out; omega)
          have Hrl := Lib.hid (show (shRow es n i).length = n by simp [shRow])
          have HOy := Lib.hid (hO0.ext hEX)
          have hEY := hE.trans hEX
          have hVY := hEY.size
          have HM9 := Lib.hid (show (shM es n i).length ≤ 1000000000 by rw [shM_length]; omega)
          have hMk := shM_length es n i
          have Hsn := Lib.hid (shM_snoc es n i)
          clear hke hI HO1 hEX hO0 hO
          generalize shM es n i = Mi at *
          go_wp2_with (at_builtin; refine app_matX rfl _ _ rfl rfl (HOy.out.ext ((Ext.refl _).alloc _)) rfl (b := Y.heap.size) (g0 := gx) (c0 := n) (by go_simp) (HR.out.ext ((Ext.refl _).alloc _)) Hrl.out Hnew.out HM9.out (by simp; omega) ?_; intro gg cap2 w8 hO8 hB8 hG8; rw [hMk] at hO8 ⊢)
          have hE8 : Ext V w8 := Below.trans (hEY.alloc (.cells #[.slice (some ⟨gx, 0, none⟩) n n] 32)) hB8
          rw [Hsn.out] at hO8
          have hO9 := Lib.hid (show ∃ ad, MatX V.heap.size w8 (slv gg (i + 1) cap2) n (shM es n (i + 1)) ad from ⟨_, hO8⟩)
          clear hG8 hB8 hO8
          go_wp2_with fail
          go_roundw
          case rel => exact ⟨i + 1, by omega, by go_num, hO9, hE8⟩
          case measure => simp [intOf] <;> omega
    · have hie : i = m := by omega
      have hii : ¬ (i : Int) < (m : Int) := by omega
      subst hie
      obtain ⟨ad, hO0⟩ := hO.out
      have Hres := Lib.hid (show MatX w.heap.size X _ n (shM es n i) ad from hO0.mono (by omega))
      clear hO hO0
      go_wp2_with fail
      go_ret
      exact ⟨_, rfl, ⟨ad, Hres.out⟩, hEw.trans hE⟩
end Go.Proofs.YtcklioolpicmcaaGreatDoor
/- schismalaw08: SmithLaws, plain: transposition, a multiple of a row added, rows exchanged; matrices in memory whose rows are changed -/
namespace Go.Proofs.YtcklioolpicmcaaGreatDoor
open Go.RowKit Go.Sort
theorem MatX.outer {B : Nat} {w : World} {g cap n L : Nat} {F : Mx} {ad : List (Nat × Nat)} (h : MatX B w (slv g L cap) n F ad) (hL : L = F.length) : OwnV 32 B w g cap (hdX n ad) := by
  subst hL
  unfold OwnV
  rw [hdX_length, h.len]; exact h.own
theorem MatX.ne {B : Nat} {w : World} {g cap n L : Nat} {F : Mx} {ad : List (Nat × Nat)} (h : MatX B w (slv g L cap) n F ad) {i : Nat} (hi : i < ad.length) : ad[i].1 ≠ g := fun e => by
  have hi' : i < F.length := by rw [← h.len]; exact hi
  have := own_ne (ownV_row (n := n) (h.row i hi' hi) (h.rect _ (List.getElem_mem hi'))) h.own (by decide) (g := ad[i].1) rfl
  exact this (by rw [e]; rfl)
theorem MatX.hd {B : Nat} {w : World} {g cap n L : Nat} {F : Mx} {ad : List (Nat × Nat)} (h : MatX B w (slv g L cap) n F ad) (hL : L = F.length) {i : Nat} (hi : i < ad.length) : w.cell? ⟨g, i, none⟩ = some (slv ad[i].1 n ad[i].2) := by
  have h1 := (h.outer hL).cell (j := i) (by rw [hdX_length]; exact hi)
  rw [hdX_get n hi] at h1
  exact h1
theorem MatX.setRow {B : Nat} {w w' : World} {g cap n L i : Nat} {F : Mx} {ad : List (Nat × Nat)} {r : List Int} (h : MatX B w (slv g L cap) n F ad) (hL : L = F.length) (hi : i < ad.length) (hO : OwnV 3 B w' ad[i].1 ad[i].2 (is r)) (hG : w.grownBy w' (some ad[i].1)) (hr : r.length = n) : MatX B w' (slv g L cap) n (F.set i r) ad := by
  have hout := (h.outer hL).other hG (Ne.symm (h.ne hi))
  refine ⟨by rw [List.length_set]; exact h.len, rect_set h.rect hr, ?_, fun k hk hk' => ?_, h.dis⟩
  · unfold OwnV at hout
    rw [hdX_length, h.len] at hout
    rw [List.length_set, hL]; exact hout
  · by_cases e : i = k
    · subst e
      rw [List.getElem_set_self]; exact hO
    · rw [List.getElem_set_ne e]
      refine (h.row k (by simpa using hk) hk').other hG ?_
      rcases Nat.lt_or_gt_of_ne e with hlt | hlt
      · exact Ne.symm (h.dis i k hi hk' hlt)
      · exact h.dis k i hk' hi hlt
/-- Two headers exchanged: what reads then. -/
theorem MatX.swapR {B : Nat} {w : World} {g cap n L i j : Nat} {F : Mx} {ad : List (Nat × Nat)} (h : MatX B w (slv g L cap) n F ad) (hL : L = F.length) (hi : i < ad.length) (hj : j < ad.length) :
    MatR ((w.setCell ⟨g, i, none⟩ (slv ad[j].1 n ad[j].2)).setCell ⟨g, j, none⟩ (slv ad[i].1 n ad[i].2)) (slv g L cap) (rowSwap i j F) ∧ w.grownBy ((w.setCell ⟨g, i, none⟩ (slv ad[j].1 n ad[j].2)).setCell ⟨g, j, none⟩ (slv ad[i].1 n ad[i].2)) (some g) := by
  obtain ⟨h1, g1⟩ := (h.outer hL).set i (slv ad[j].1 n ad[j].2)
  obtain ⟨h2, g2⟩ := h1.set j (slv ad[i].1 n ad[i].2)
  have hg := grown_trans g1 g2
  refine ⟨?_, hg⟩
  have hlF := h.len
  have hF : (rowSwap i j F).length = F.length := rowSwap_length _ _ _
  have hcap := h2.cap
  have hl : (((hdX n ad).set i (slv ad[j].1 n ad[j].2)).set j (slv ad[i].1 n ad[i].2)).length = F.length := by simp [hlF]
  refine ⟨some ⟨g, 0, none⟩, g, 0, cap, ((hdX n ad).set i (slv ad[j].1 n ad[j].2)).set j (slv ad[i].1 n ad[i].2), by rw [hF, hL], by rw [hF, ← hl]; exact hcap, by rw [hF]; exact hl, h2.sl, fun t ht ht' => ?_⟩
  have htF : t < F.length := by omega
  have hrow : ∀ k (hk : k < F.length) (hk' : k < ad.length), RowR ((w.setCell ⟨g, i, none⟩ (slv ad[j].1 n ad[j].2)).setCell ⟨g, j, none⟩ (slv ad[i].1 n ad[i].2)) (slv ad[k].1 n ad[k].2) F[k] := fun k hk hk' =>
    (ownV_row ((h.row k hk hk').other hg (h.ne hk')) (h.rect _ (List.getElem_mem hk))).row
  have e1 : (rowSwap i j F)[t] = F[sg i j t]'(sg_lt (by omega) (by omega) htF) := sw2_get F [] (by omega) (by omega) (by rw [sw2_length]; exact htF)
  rw [e1]
  have hs : sg i j t < ad.length := sg_lt hi hj (by omega)
  have e2 : (((hdX n ad).set i (slv ad[j].1 n ad[j].2)).set j (slv ad[i].1 n ad[i].2))[t] = slv (ad[sg i j t]).1 n (ad[sg i j t]).2 := by
    rw [List.getElem_set, List.getElem_set]
    unfold sg
    by_cases a : j = t
    · subst a
      rw [if_pos rfl]; simp
    · rw [if_neg a]
      by_cases b : i = t
      · subst b
        rw [if_pos rfl]; simp [Ne.symm a]
      · rw [if_neg b, hdX_get n (by omega)]; simp [Ne.symm a, Ne.symm b]
  rw [e2]
  exact hrow _ (by omega) hs
/-- A row with the multiple of another one added to its first elements. -/
def mixT (r s : List Int) (q : Int) (n k : Nat) : List Int := (List.range n).map fun j => if j < k then r.getD j 0 - q * s.getD j 0 else r.getD j 0
@[simp] theorem mixT_length (r s : List Int) (q : Int) (n k : Nat) : (mixT r s q n k).length = n := by simp [mixT]
theorem mixT_get (r s : List Int) (q : Int) {n k j : Nat} (h : j < n) : (mixT r s q n k)[j]'(by simpa using h) = if j < k then r.getD j 0 - q * s.getD j 0 else r.getD j 0 := by simp [mixT]
theorem mixT_zero {r : List Int} (s : List Int) (q : Int) {n : Nat} (h : r.length = n) : mixT r s q n 0 = r := List.ext_getElem (by simp [h]) fun j h1 h2 => by
  rw [mixT_get r s q (by simpa using h1), if_neg (by omega), getD_get h2]
theorem mixT_set (r s : List Int) (q : Int) {n k : Nat} : (mixT r s q n k).set k (r.getD k 0 - q * s.getD k 0) = mixT r s q n (k + 1) := List.ext_getElem (by simp) fun j h1 h2 => by
  have hj : j < n := by simpa using h2
  rw [List.getElem_set, mixT_get _ _ _ hj, mixT_get _ _ _ hj]
  by_cases e : k = j
  · subst e; rw [if_pos rfl, if_pos (by omega)]
  · rw [if_neg e]
    by_cases h3 : j < k
    · rw [if_pos h3, if_pos (by omega)]
    · rw [if_neg h3, if_neg (by omega)]
theorem mixT_all {r s : List Int} (q : Int) {n : Nat} (hr : r.length = n) (hs : s.length = n) : mixT r s q n n = subK q r s := List.ext_getElem (by simp [hr]) fun j h1 h2 => by
  have hj : j < n := by simpa using h1
  rw [mixT_get _ _ _ hj, if_pos hj, ← subK_getD q r s j (by omega), getD_get h2]
/-- The transposed matrix. -/
def colT (M : Mx) (k n : Nat) : List Int := (List.range n).map fun r => eM M r k
def colP (M : Mx) (N k n : Nat) : List Int := (List.range N).map fun r => if r < n then eM M r k else 0
def trT (M : Mx) (N c : Nat) : Mx := (List.range c).map fun k => colT M k N
theorem colP_zero (M : Mx) (N k : Nat) : colP M N k 0 = List.replicate N 0 := by
  refine List.ext_getElem (by simp [colP]) fun i h1 h2 => by simp [colP]
theorem colP_all (M : Mx) (N k : Nat) : colP M N k N = colT M k N := by
  refine List.ext_getElem (by simp [colP, colT]) fun i h1 h2 => ?_
  have : i < N := by simpa [colP] using h1
  simp [colP, colT, this]
@[simp] theorem colP_length (M : Mx) (N k n : Nat) : (colP M N k n).length = N := by simp [colP]
@[simp] theorem colT_length (M : Mx) (k N : Nat) : (colT M k N).length = N := by simp [colT]
theorem colP_set (M : Mx) (N k n : Nat) : (colP M N k n).set n (eM M n k) = colP M N k (n + 1) := by
  refine List.ext_getElem (by simp) fun i h1 h2 => ?_
  have hi : i < N := by simpa using h2
  rw [List.getElem_set]
  simp only [colP, List.getElem_map, List.getElem_range]
  by_cases e : n = i
  · subst e; rw [if_pos rfl, if_pos (by omega)]
  · rw [if_neg e]
    by_cases h3 : i < n
    · rw [if_pos h3, if_pos (by omega)]
    · rw [if_neg h3, if_neg (by omega)]
@[simp] theorem trT_length (M : Mx) (N c : Nat) : (trT M N c).length = c := by simp [trT]
theorem trT_snoc (M : Mx) (N c : Nat) : trT M N c ++ [colT M c N] = trT M N (c + 1) := by unfold trT; rw [List.range_succ, List.map_append]; rfl
theorem trT_rect (M : Mx) (N c : Nat) : Rect N (trT M N c) := fun r hr => by
  obtain ⟨k, _, rfl⟩ := List.mem_map.1 hr
  simp
theorem trT_el {M : Mx} {c : Nat} (hR : Rect c M) (i k : Nat) : eM (trT M M.length c) i k = eM M k i := by
  by_cases hi : i < c
  · by_cases hk : k < M.length
    · unfold eM
      rw [getD_get (l := trT M M.length c) (i := i) (by simpa using hi)]
      simp only [trT, List.getElem_map, List.getElem_range]
      rw [getD_get (l := colT M i M.length) (i := k) (by simpa using hk)]
      simp [colT, eM]
    · rw [el_col (trT_rect M M.length c) (by omega), el_row (by omega)]
  · rw [el_row (by simpa using hi), el_col hR (by omega)]
theorem ncols_of {M : Mx} {c : Nat} (h : 0 < M.length) (hR : Rect c M) : ncols M = c := by
  unfold ncols; rw [getD_get h]; exact hR _ (List.getElem_mem h)
theorem smf_tr {M : Mx} (h : SmF M) : SmF (trT M M.length (ncols M)) ∧ Eqv (eM M) (eM (trT M M.length (ncols M))) := by
  have hel := trT_el h.rect
  have hl : (trT M M.length (ncols M)).length = ncols M := by simp
  have hnc : ncols (trT M M.length (ncols M)) = M.length := ncols_of (by rw [hl]; exact h.c0) (trT_rect _ _ _)
  refine ⟨⟨by rw [hl]; exact h.c0, by rw [hl]; exact h.c3, by rw [hnc]; exact h.n0, by rw [hnc]; exact h.n3, by rw [hnc]; exact trT_rect _ _ _, fun i k => by rw [hel]; exact h.ent _ _, ?_⟩, ?_⟩
  · rcases h.low with hz | ⟨i, k, h1, h2⟩
    · exact .inl fun i k => by rw [hel]; exact hz _ _
    · exact .inr ⟨k, i, by rw [hel]; exact h1, by rw [hel]; exact h2⟩
  · have e : eM (trT M M.length (ncols M)) = tr (eM M) := funext fun i => funext fun k => hel i k
    rw [e]; exact eqv_tr _
theorem sm_el {M : Mx} (h : SmM M) (i k : Nat) : -9 ≤ eM M i k ∧ eM M i k ≤ 9 := by
  by_cases hi : i < M.length
  · by_cases hk : k < M[i].length
    · unfold eM; rw [getD_get hi, getD_get hk]; exact h.ent _ (List.getElem_mem hi) _ (List.getElem_mem hk)
    · rw [el_col h.rect (by have := h.rect _ (List.getElem_mem hi); omega)]; omega
  · rw [el_row (by omega)]; omega
theorem mul_b {q z : Int} (hq : -11 ≤ q ∧ q ≤ 4) (hz : -9 ≤ z ∧ z ≤ 9) : -99 ≤ q * z ∧ q * z ≤ 99 := by
  obtain ⟨q1, q2⟩ := hq
  rcases (show q = -11 ∨ q = -10 ∨ q = -9 ∨ q = -8 ∨ q = -7 ∨ q = -6 ∨ q = -5 ∨ q = -4 ∨ q = -3 ∨ q = -2 ∨ q = -1 ∨ q = 0 ∨ q = 1 ∨ q = 2 ∨ q = 3 ∨ q = 4 by omega) with rfl | rfl | rfl | rfl | rfl | rfl | rfl | rfl | rfl | rfl | rfl | rfl | rfl | rfl | rfl | rfl <;> omega
/-- The multiple of a row added to another one. -/
theorem smf_mix {M : Mx} (h : SmM M) {a b : Nat} {q : Int} (ha : a < M.length) (hb : b < M.length) (hab : a ≠ b) (hc : 0 < ncols M) (hq : -11 ≤ q ∧ q ≤ 4) : SmF (rowSub a b q M) ∧ Eqv (eM M) (eM (rowSub a b q M)) := by
  have hel : ∀ x y, eM (rowSub a b q M) x y = if x = a then eM M a y - q * eM M b y else eM M x y := rowSub_el h.rect ha hb
  have hl : (rowSub a b q M).length = M.length := rowSub_length _ _ _ _
  have hR : Rect (ncols M) (rowSub a b q M) := rect_rowSub h.rect ha
  have hnc : ncols (rowSub a b q M) = ncols M := ncols_of (by omega) hR
  refine ⟨⟨by omega, by rw [hl]; exact h.n3, by omega, by rw [hnc]; exact h.c3, by rw [hnc]; exact hR, fun i k => ?_, ?_⟩, ?_⟩
  · rw [hel]
    have h1 := sm_el h i k
    have h2 := sm_el h a k
    have h3 := mul_b hq (sm_el h b k)
    split <;> omega
  · by_cases hz : ∃ k, eM M b k ≠ 0
    · obtain ⟨k, hk⟩ := hz
      have := sm_el h b k
      exact .inr ⟨b, k, by rw [hel, if_neg (Ne.symm hab)]; exact hk, by rw [hel, if_neg (Ne.symm hab)]; omega⟩
    · have hb0 : ∀ k, eM M b k = 0 := fun k => Classical.byContradiction fun h => hz ⟨k, h⟩
      have he : ∀ x y, eM (rowSub a b q M) x y = eM M x y := fun x y => by
        rw [hel]
        split
        · rename_i e; rw [hb0, e]; simp
        · rfl
      by_cases h0 : ∀ i k, eM M i k = 0
      · exact .inl fun i k => by rw [he]; exact h0 i k
      · right
        refine Classical.byContradiction fun hc => h0 fun i k => Classical.byContradiction fun h' => hc ⟨i, k, by rw [he]; exact h', by rw [he]; have := sm_el h i k; omega⟩
  · refine eqv_shear (t := b) (f := fun x => if x = a then q else 0) (if_neg (Ne.symm hab)) fun x y => ?_
    rw [hel]
    split
    · rename_i e; rw [e]
    · simp
theorem smf_swap {M : Mx} (h : SmF M) {i j : Nat} (hi : i < M.length) (hj : j < M.length) : SmF (rowSwap i j M) ∧ Eqv (eM M) (eM (rowSwap i j M)) := by
  have hel : ∀ x y, eM (rowSwap i j M) x y = eM M (sx i j x) y := rowSwap_el hi hj
  have hl : (rowSwap i j M).length = M.length := rowSwap_length _ _ _
  have hR : Rect (ncols M) (rowSwap i j M) := rect_rowSwap h.rect hi hj
  have hnc : ncols (rowSwap i j M) = ncols M := ncols_of (by rw [hl]; exact h.n0) hR
  refine ⟨⟨by rw [hl]; exact h.n0, by rw [hl]; exact h.n3, by rw [hnc]; exact h.c0, by rw [hnc]; exact h.c3, by rw [hnc]; exact hR, fun x y => by rw [hel]; exact h.ent _ _, ?_⟩, ?_⟩
  · rcases h.low with hz | ⟨x, y, h1, h2⟩
    · exact .inl fun x y => by rw [hel]; exact hz _ _
    · exact .inr ⟨sx i j x, y, by rw [hel, sx_inv]; exact h1, by rw [hel, sx_inv]; exact h2⟩
  · exact eqv_perm (σ := sx i j) (τ := fun y => y) (sx_inv i j) (fun _ => rfl) hel
end Go.Proofs.YtcklioolpicmcaaGreatDoor
/- schismalaw08: Row -/
namespace Go.Proofs.YtcklioolpicmcaaGreatDoor
open Go.RowKit Go.Sort
def row8 (z : List Int) (n : Nat) : List Int := (z.take n).map fun y => y.tmod 41
theorem row8_length {z : List Int} {n : Nat} (h : n ≤ z.length) : (row8 z n).length = n := by simp [row8]; omega
theorem row8_snoc {z : List Int} {n : Nat} (h : n < z.length) : row8 z n ++ [z[n].tmod 41] = row8 z (n + 1) := by
  unfold row8
  rw [List.take_succ_eq_append_getElem h, List.map_append]
  rfl
theorem row8_b {z : List Int} {n : Nat} : ∀ y ∈ row8 z n, -40 ≤ y ∧ y ≤ 40 := fun y hy => by
  obtain ⟨x, _, rfl⟩ := List.mem_map.1 hy
  have h1 := Int.tmod_lt_of_pos x (b := 41) (by omega)
  have h2 := Int.lt_tmod_of_pos x (b := 41) (by omega)
  omega
set_option maxRecDepth 100000 in
set_option maxHeartbeats 1000000 in
theorem Row08_any {w : World} {z0 z1 z2 : Int} {n : Nat} (hn : n ≤ 3) (h0 : -128 ≤ z0 ∧ z0 ≤ 127) (h1 : -128 ≤ z1 ∧ z1 ≤ 127) (h2 : -128 ≤ z2 ∧ z2 ≤ 127) :
    Calls Tryz.prog 18 #[.agg #[.int .i8 z0, .int .i8 z1, .int .i8 z2], .int .i64 n] w fun e w' => ∃ v, e = .returned v ∧ RowV w.heap.size w' v (row8 [z0, z1, z2] n) ∧ Ext w w' := by
  have hEw := (Ext.refl w).alloc (.cells #[.int .i8 z0, .int .i8 z1, .int .i8 z2] 26)
  have hcell := Lib.hid (fun (j : Nat) (hj : j < 3) => (show (w.alloc (.cells #[.int .i8 z0, .int .i8 z1, .int .i8 z2] 26)).cell? ⟨w.heap.size, j, none⟩ = some (.int .i8 (([z0, z1, z2] : List Int)[j]'hj)) from by
    rcases (show j = 0 ∨ j = 1 ∨ j = 2 by omega) with rfl | rfl | rfl <;> go_simp))
  have hb := Lib.hid (show ∀ y ∈ ([z0, z1, z2] : List Int), -128 ≤ y ∧ y ≤ 127 from fun y hy => by
    simp only [List.mem_cons, List.not_mem_nil, or_false] at hy
    rcases hy with rfl | rfl | rfl <;> assumption)
  have hsz : w.heap.size < (w.alloc (.cells #[.int .i8 z0, .int .i8 z1, .int .i8 z2] 26)).heap.size := by simp
  have hzl : ([z0, z1, z2] : List Int).length = 3 := rfl
  go_enter Tryz.func18, Tryz.ntmps18
  go_wp2_with fail
  generalize (w.alloc (.cells #[.int .i8 z0, .int .i8 z1, .int .i8 z2] 26)) = V at *
  have Hz := Lib.hid hzl
  clear h0 h1 h2 hzl
  go_loopw [5, 6] (fun out idx wr => ∃ k : Nat, k ≤ n ∧ idx = .int .i64 k ∧ Hid (RowV V.heap.size wr out (row8 [z0, z1, z2] k)) ∧ Ext V wr) (fun _ idx _ => n - (intOf idx).toNat)
  case atStart => exact ⟨0, by omega, by go_num, Lib.hid (RowV.nil _ _), Ext.refl _⟩
  case round =>
    obtain ⟨k, hk, rfl, hO, hE⟩ := hrel
    generalize wr = X at *
    by_cases hlt : k < n
    · have hki : (k : Int) < (n : Int) := by omega
      have hk3 : (k : Int) < 3 := by omega
      have hkl : k < ([z0, z1, z2] : List Int).length := by rw [Hz.out]; omega
      have hz' := hE.cell (hcell.out k (by omega))
      have hzb := hb.out _ (List.getElem_mem hkl)
      have hsn := Lib.hid (row8_snoc hkl)
      obtain ⟨z, hz⟩ : ∃ z, z = ([z0, z1, z2] : List Int)[k] := ⟨_, rfl⟩
      rw [← hz] at hz' hzb hsn
      have Hl4 := Lib.hid (show (row8 [z0, z1, z2] k).length ≤ 1000000000 by rw [row8_length (by rw [Hz.out]; omega)]; omega)
      have hrk := row8_length (z := [z0, z1, z2]) (n := k) (by rw [Hz.out]; omega)
      have hsX := hE.size
      clear hz hkl
      generalize row8 [z0, z1, z2] k = r at *
      go_wp2_with (at_builtin; refine app_int rfl _ _ 32 Tryz.underlying32 rfl rfl (hO.out.ext ((Ext.refl _).alloc _)) rfl (b := X.heap.size) (z := z.tmod 41) (by go_simp) Hl4.out (by simp; omega) ?_; intro gg cap2 w8 hO8 hB8 hG8; rw [hrk] at hO8 ⊢)
      have hE8 : Ext V w8 := Below.trans (hE.alloc (.cells #[.int .i64 (z.tmod 41)] 3)) hB8
      rw [hsn.out] at hO8
      have hO9 := Lib.hid hO8
      clear hG8 hB8 hO8
      go_wp2_with fail
      go_roundw
      case rel => exact ⟨k + 1, by omega, by go_num, hO9, hE8⟩
      case measure => simp [intOf] <;> omega
    · have hke : k = n := by omega
      subst hke
      have Hres := Lib.hid (show RowV w.heap.size X _ (row8 [z0, z1, z2] k) from hO.out.mono (by omega))
      go_wp2_with fail
      go_ret
      exact ⟨_, rfl, Hres.out, hEw.trans hE⟩
end Go.Proofs.YtcklioolpicmcaaGreatDoor
/- schismalaw08: SmithCombines, the walk -/
namespace Go.Proofs.YtcklioolpicmcaaGreatDoor
open Go.RowKit Go.Sort
set_option maxRecDepth 100000 in
set_option maxHeartbeats 2000000 in
theorem sc_walk {w : World} {R C : Nat} {e0 e1 e2 e3 e4 e5 e6 e7 e8 z0 z1 z2 : Int} (hG : ShapeV #[.int .u8 R, .int .u8 C, .int .i8 e0, .int .i8 e1, .int .i8 e2, .int .i8 e3, .int .i8 e4, .int .i8 e5, .int .i8 e6, .int .i8 e7, .int .i8 e8] R C [e0, e1, e2, e3, e4, e5, e6, e7, e8])
    (h0 : -128 ≤ z0 ∧ z0 ≤ 127) (h1 : -128 ≤ z1 ∧ z1 ≤ 127) (h2 : -128 ≤ z2 ∧ z2 ≤ 127) (hL : Laid w) :
    Calls Tryz.prog 3 #[.agg #[.int .u8 R, .int .u8 C, .int .i8 e0, .int .i8 e1, .int .i8 e2, .int .i8 e3, .int .i8 e4, .int .i8 e5, .int .i8 e6, .int .i8 e7, .int .i8 e8], .agg #[.int .i8 z0, .int .i8 z1, .int .i8 z2]] w fun e w' => e = .returned (.bool true) ∧ Ext w w' := by
  have HL := Lib.hid hL
  obtain ⟨M, hMd⟩ : ∃ M, M = shM [e0, e1, e2, e3, e4, e5, e6, e7, e8] (C % 4) (R % 4) := ⟨_, rfl⟩
  have hmk := Lib.hid (fun W => Make08_any (w := W) hG)
  rw [← hMd] at hmk
  have hSm : SmM M := by rw [hMd]; exact sh_small _ _ _
  obtain ⟨N, hN⟩ : ∃ N, N = M.length := ⟨_, rfl⟩
  obtain ⟨c, hc⟩ : ∃ c, c = ncols M := ⟨_, rfl⟩
  have hN3 : N ≤ 3 := by rw [hN]; exact hSm.n3
  have hc3 : c ≤ 3 := by rw [hc]; exact hSm.c3
  have hrw := Lib.hid (fun W => Row08_any (w := W) (n := N) hN3 h0 h1 h2)
  obtain ⟨l, hl⟩ : ∃ l, l = row8 [z0, z1, z2] N := ⟨_, rfl⟩
  rw [← hl] at hrw
  have hll : l.length = M.length := by rw [hl, ← hN, row8_length (by simpa using hN3)]
  have hlb : ∀ z ∈ l, -40 ≤ z ∧ z ≤ 40 := by rw [hl]; exact row8_b
  have hcb := Lib.hid (fun W vm vl x (a : MatR W vm M) (b : RowR W vl x) (hx : x.length = M.length) (hb : ∀ z ∈ x, -1000000000 ≤ z ∧ z ≤ 1000000000) => Combine08_any a b (hSm.cb hx hb))
  rw [← hc] at hcb
  have hso := Lib.hid (fun W vm vb (a : MatR W vm M) (b : RowR W vb (cmbL M l (ncols M))) (hL : Laid W) => sc_solve a b hSm hll hlb hL)
  rw [← hc] at hso
  have hco := Lib.hid (fun W vm (a : MatR W vm M) => Columns08_any a)
  rw [← hc] at hco
  have Hll := Lib.hid hll
  have Hlb := Lib.hid (show ∀ z ∈ l, -1000000000 ≤ z ∧ z ≤ 1000000000 from fun z hz => by have := hlb z hz; omega)
  have HN := Lib.hid hN
  clear hG h0 h1 h2 hL hMd hSm hll hlb hl hN hc
  go_enter Tryz.func3, Tryz.ntmps3
  have hX : Ext w ((w.alloc (.cells #[.int .u8 R, .int .u8 C, .int .i8 e0, .int .i8 e1, .int .i8 e2, .int .i8 e3, .int .i8 e4, .int .i8 e5, .int .i8 e6, .int .i8 e7, .int .i8 e8] 25)).alloc (.cells #[.int .i8 z0, .int .i8 z1, .int .i8 z2] 26)) := ((Ext.refl w).alloc _).alloc _
  go_wp2_with fail
  refine (known08_any (HL.out.ext hX)).mono ?_
  rintro e w1 ⟨rfl, hE1⟩
  have s0 : w1.cell? ⟨w.heap.size, 0, none⟩ = some (.int .u8 R) := hE1.cell (by go_simp)
  have s1 : w1.cell? ⟨w.heap.size, 1, none⟩ = some (.int .u8 C) := hE1.cell (by go_simp)
  have s2 : w1.cell? ⟨w.heap.size, 2, none⟩ = some (.int .i8 e0) := hE1.cell (by go_simp)
  have s3 : w1.cell? ⟨w.heap.size, 3, none⟩ = some (.int .i8 e1) := hE1.cell (by go_simp)
  have s4 : w1.cell? ⟨w.heap.size, 4, none⟩ = some (.int .i8 e2) := hE1.cell (by go_simp)
  have s5 : w1.cell? ⟨w.heap.size, 5, none⟩ = some (.int .i8 e3) := hE1.cell (by go_simp)
  have s6 : w1.cell? ⟨w.heap.size, 6, none⟩ = some (.int .i8 e4) := hE1.cell (by go_simp)
  have s7 : w1.cell? ⟨w.heap.size, 7, none⟩ = some (.int .i8 e5) := hE1.cell (by go_simp)
  have s8 : w1.cell? ⟨w.heap.size, 8, none⟩ = some (.int .i8 e6) := hE1.cell (by go_simp)
  have s9 : w1.cell? ⟨w.heap.size, 9, none⟩ = some (.int .i8 e7) := hE1.cell (by go_simp)
  have s10 : w1.cell? ⟨w.heap.size, 10, none⟩ = some (.int .i8 e8) := hE1.cell (by go_simp)
  have t0 : w1.cell? ⟨w.heap.size + 1, 0, none⟩ = some (.int .i8 z0) := hE1.cell (by go_simp)
  have t1 : w1.cell? ⟨w.heap.size + 1, 1, none⟩ = some (.int .i8 z1) := hE1.cell (by go_simp)
  have t2 : w1.cell? ⟨w.heap.size + 1, 2, none⟩ = some (.int .i8 z2) := hE1.cell (by go_simp)
  have hX1 := hX.trans hE1
  clear hX hE1
  go_wp2_with fail
  refine (hmk.out w1).mono ?_
  rintro e w2 ⟨vm, rfl, hvm, hE2⟩
  have hMr := hvm.mat
  obtain ⟨sm, gm, om, cm, vsm, rfl, hcm, _, _, _⟩ := id hMr
  rw [← HN.out] at hMr ⊢
  have HMr := Lib.hid hMr
  replace t0 := hE2.cell t0
  replace t1 := hE2.cell t1
  replace t2 := hE2.cell t2
  have hX2 := hX1.trans hE2
  clear s0 s1 s2 s3 s4 s5 s6 s7 s8 s9 s10 hvm hMr hE2 hX1 hmk
  go_wp2_with fail
  refine (hrw.out w2).mono ?_
  rintro e w3 ⟨vl, rfl, hvl, hE3⟩
  have hRl := hvl.row
  have HRl := Lib.hid hRl
  have hX3 := hX2.trans hE3
  replace HMr := Lib.hid (HMr.out.ext hE3)
  clear t0 t1 t2 hvl hRl hE3 hX2 hrw
  go_wp2_with fail
  refine (hco.out _ _ HMr.out).mono ?_
  rintro e w4 ⟨rfl, hE4⟩
  have hX4 := hX3.trans hE4
  replace HMr := Lib.hid (HMr.out.ext hE4)
  replace HRl := Lib.hid (HRl.out.ext hE4)
  clear hE4 hX3 hco
  go_wp2_with fail
  refine (hcb.out _ _ _ _ HMr.out HRl.out Hll.out Hlb.out).mono ?_
  rintro e w5 ⟨vb, rfl, hvb, hE5⟩
  have hB := hvb.row
  obtain ⟨sb, gb, ob, cb, rfl, hcb5, _⟩ := id hB
  have hbl : (cmbL M l c).length = c := cmbL_length _ _ _
  have HB := Lib.hid (show RowR w5 _ (cmbL M l c) from hB)
  rw [show ((List.range c).map (cmb M (vr l))).length = c by simp] at *
  have hX5 := hX4.trans hE5
  replace HMr := Lib.hid (HMr.out.ext hE5)
  clear hE5 hX4 HRl hvb hB hcb5 hbl
  go_wp2_with fail
  refine (hso.out _ _ _ HMr.out HB.out (HL.out.ext hX5)).mono ?_
  rintro e w6 ⟨u, x, rfl, hu, hxl, hxb, hxe, hE6⟩
  obtain ⟨su, gu, ou, cu, rfl, hcu, _⟩ := id hu
  have hxN : x.length = N := hxl.trans HN.out.symm
  rw [hxN] at hu ⊢
  have HU := Lib.hid hu
  have Hxl := Lib.hid hxl
  have Hxb := Lib.hid hxb
  have Hxe := Lib.hid hxe
  have hX6 := hX5.trans hE6
  replace HMr := Lib.hid (HMr.out.ext hE6)
  replace HB := Lib.hid (HB.out.ext hE6)
  clear hE6 hX5 hu hxl hxb hxe hcu hso hxN
  go_wp2_with fail
  refine (hcb.out _ _ _ _ HMr.out HU.out Hxl.out Hxb.out).mono ?_
  rintro e w7 ⟨vq, rfl, hvq, hE7⟩
  have hq := hvq.row
  have HQ := Lib.hid (show RowR w7 vq (cmbL M l c) from by rw [← Hxe.out]; exact hq)
  have hX7 := hX6.trans hE7
  replace HB := Lib.hid (HB.out.ext hE7)
  clear hE7 hX6 hvq hq hcb HMr HU
  go_wp2_with fail
  refine (s08_same HQ.out HB.out (by rw [cmbL_length]; omega)).mono ?_
  rintro e w8 ⟨rfl, hE8⟩
  go_wp2_with fail
  go_ret
  exact ⟨rfl, hX7.trans hE8⟩
end Go.Proofs.YtcklioolpicmcaaGreatDoor
/- append of a row of ints that may be empty, at an operation by itself. -/
namespace Go.Proofs.YtcklioolpicmcaaGreatDoor
open Go.RowKit Go.Sort
theorem run_row {w : World} {B : Nat} {v : Value} {r : List Int} (t T : TypeId) (ht : Tryz.prog.underlying t = some (.slice 3)) (hown : RowV B w v r) {vx : Value} {z : List Int} (hR : RowR w vx z) (hl : r.length + z.length ≤ 1000000000) (hB : B ≤ w.heap.size) :
    ∃ v' w', (Builtin.append_ #[t, t] T #[v, vx]).run Tryz.prog w = .ok v' w' ∧ RowV B w' v' (r ++ z) ∧ w.grownBy w' v.ownBlock := by
  obtain ⟨i0, hi, hz0, hz1, hz2⟩ := info_parts Tryz.infoInt
  obtain ⟨sa, b, c, gc, rfl, hc, hS⟩ := hR
  have hrun : ∃ v' w', (Builtin.append_ #[t, t] T #[v, .slice sa z.length gc]).run Tryz.prog w = .ok v' w' ∧ w'.ownsRow B 3 1 v' (r.length + z.length) (is r ++ is z) ∧ w.grownBy w' v.ownBlock := by
    rcases sa with _ | ad
    · have hz : z = [] := by
        rcases Nat.eq_zero_or_pos z.length with h0 | h0
        · exact List.eq_nil_of_length_eq_zero h0
        · have := hS.addr (by rw [is_length]; exact h0)
          cases this
      subst hz
      refine ⟨v, w, ?_, by have h1 := hown; unfold RowV at h1; simpa [is] using h1, World.grownBy.refl w _⟩
      rcases hown.2 with ⟨rfl, h0⟩ | ⟨g, cap, cur, rfl, _, _, hnc, _⟩
      · simp [Builtin.append_, run_underlying ht, sizeOf, typeInfo, hi, Builtin.lenOf, Builtin.firstCells]
      · simp [Builtin.append_, run_underlying ht, sizeOf, typeInfo, hi, Builtin.lenOf, Builtin.firstCells, hnc, storeCells]
    · have hcells : ∀ j u, (is z)[j]? = some u → w.cell? (ad.add j) = some u := fun j u hu => by
        have hj := (List.getElem?_eq_some_iff.1 hu).1
        obtain rfl : ad = ⟨b, c, none⟩ := Option.some.inj (hS.addr (by omega))
        rw [Lib.add_plain]; exact hS.cell j u hu
      obtain ⟨v', w', h1, h2, h3, _, _⟩ := run_append_own_at (P := Tryz.prog) w B t T 3 i0 _ 1 8 ht hi hz0 hz1 hz2 rfl (by omega) v r.length (is r) hown ad z.length gc (is z) (by rw [is_length, Nat.mul_one]) hcells (fun u hu => by obtain ⟨y, _, rfl⟩ := List.mem_map.1 hu; rfl) (by unfold maxLen; omega) (by omega) hB
      exact ⟨v', w', h1, h2, h3⟩
  obtain ⟨v', w', h1, h2, h3⟩ := hrun
  refine ⟨v', w', h1, ?_, h3⟩
  unfold RowV
  have e : is (r ++ z) = is r ++ is z := by simp [is]
  rw [e, List.length_append]; exact h2
theorem wp_row {w : World} {o : Oper} {a : Act} {K : Act → World → Prop} {Q : Exit → Act → World → Prop} (s x : Operand) (t : TypeId) (ht : Tryz.prog.underlying t = some (.slice 3)) (ho : o.op = .call { callee := .builtin .append, args := #[s, x], argTypes := #[t, t] })
    {B : Nat} {v : Value} {r : List Int} (hs : a.eval s = v) (hown : RowV B w v r) {vx : Value} {z : List Int} (hx : a.eval x = vx) (hR : RowR w vx z) (hl : r.length + z.length ≤ 1000000000) (hB : B ≤ w.heap.size)
    (h : ∀ v' w', RowV B w' v' (r ++ z) → Below B w w' → w.grownBy w' v.ownBlock → K (a.put o.dst v') w') : Oper.wp Tryz.prog o a w K Q := by
  obtain ⟨v', w', h1, h2, h3⟩ := run_row t o.type ht hown hR hl hB
  unfold Oper.wp
  simp [execOp, ho, resolve, invoke, builtin, hs, hx, h1, Result.andThen]
  exact h v' w' h2 (Below.grown (Below.refl _ _) h3 hB (fun q hq => (World.ownsRow.lt hown q hq).1)) h3
theorem row_lit0 {w : World} {T : TypeId} (hT : T = 3) : RowV w.heap.size (w.alloc (.cells #[] T)) (.slice (some ⟨w.heap.size, 0, none⟩) 0 0) [] := by
  subst hT
  exact OwnV.of (xs := []) (cap := 0) (Nat.le_refl _) Array.getElem?_push_size (by simp) (by unfold maxLen; omega) rfl rfl
end Go.Proofs.YtcklioolpicmcaaGreatDoor
/- schismaref08: Gcd, Without -/
namespace Go.Proofs.YtcklioolpicmcaaGreatDoor
open Go.RowKit Go.Sort
section
variable {w : World} {ops : Array Oper} {rest : List Oper} {o : Oper} {a : Act} {Q : Exit → Act → World → Prop}
theorem app_rows (hgd : o.guard = none) (s x : Operand) (t : TypeId) (ht : Tryz.prog.underlying t = some (.slice 3)) (ho : o.op = .call { callee := .builtin .append, args := #[s, x], argTypes := #[t, t] })
    {B : Nat} {v : Value} {r : List Int} (hs : a.eval s = v) (hown : RowV B w v r) {vx : Value} {z : List Int} (hx : a.eval x = vx) (hR : RowR w vx z) (hl : r.length + z.length ≤ 1000000000) (hB : B ≤ w.heap.size)
    (h : ∀ v' w', RowV B w' v' (r ++ z) → Below B w w' → w.grownBy w' v.ownBlock → wpList Tryz.prog ops Q rest (a.put o.dst v') w') : wpList Tryz.prog ops Q (o :: rest) a w :=
  wpList_plain hgd fun K hK => by
    obtain ⟨v', w', h1, h2, h3⟩ := run_row t o.type ht hown hR hl hB
    unfold Oper.wp execOp
    simp only [ho, resolve, invoke, builtin, Sem.run_bind, Sem.run_pure, Result.andThen_ok, List.map_toArray, List.map_cons, List.map_nil, hs, hx, h1]
    exact hK _ _ (h v' w' h2 (Below.grown (Below.refl _ _) h3 hB (fun q hq => (World.ownsRow.lt hown q hq).1)) h3)
end
theorem RowR.len {w : World} {v : Value} {r : List Int} (h : RowR w v r) : ∃ sa cap, v = .slice sa r.length cap ∧ r.length ≤ cap := by
  obtain ⟨sa, gb, go, cap, e, hc, _⟩ := h; exact ⟨sa, cap, e, hc⟩
theorem gcd_step {a b : Int} : Int.gcd b (a.tmod b) = Int.gcd a b := by
  have h1 : (a.tmod b).natAbs = a.natAbs % b.natAbs := Int.natAbs_tmod a b
  unfold Int.gcd
  rw [h1]
  conv => rhs; rw [Nat.gcd_comm, Nat.gcd_rec]
  rw [Nat.gcd_comm]
set_option maxRecDepth 100000 in
set_option maxHeartbeats 1000000 in
theorem Gcd08_any {w : World} {a b : Int} (ha : -1000000000000000000 ≤ a ∧ a ≤ 1000000000000000000) (hb : -1000000000000000000 ≤ b ∧ b ≤ 1000000000000000000) :
    Calls Tryz.prog 152 #[.int .i64 a, .int .i64 b] w fun e w' => e = .returned (.int .i64 (Int.gcd a b)) ∧ Ext w w' := by
  obtain ⟨G, hG⟩ : ∃ G, G = Int.gcd a b := ⟨_, rfl⟩
  rw [← hG]
  go_enter Tryz.func152, Tryz.ntmps152
  go_wp2_with fail
  go_loopw [0, 1] (fun av bv wr => ∃ x y : Int, av = .int .i64 x ∧ bv = .int .i64 y ∧ Hid (Int.gcd x y = G ∧ (-1000000000000000000 ≤ x ∧ x ≤ 1000000000000000000) ∧ (-1000000000000000000 ≤ y ∧ y ≤ 1000000000000000000)) ∧ Ext w wr) (fun _ bv _ => (intOf bv).natAbs)
  case atStart => exact ⟨a, b, rfl, rfl, Lib.hid ⟨hG.symm, ha, hb⟩, Ext.refl _⟩
  case round =>
    clear ha hb hG
    obtain ⟨x, y, rfl, rfl, HI, hE⟩ := hrel
    generalize wr = X at *
    by_cases hy : y = 0
    · subst hy
      obtain ⟨h1, h2, _⟩ := HI.out
      have hgx : Int.gcd x 0 = x.natAbs := by simp [Int.gcd]
      rw [hgx] at h1
      have H1 := Lib.hid h1
      clear h1 hgx HI
      by_cases hx : x < 0
      · have hw : IntKind.i64.wrap (0 - x) = 0 - x := IntWalk.i64_in _ (by omega)
        have Hr := Lib.hid (show (0 - x : Int) = (G : Int) by have := H1.out; omega)
        clear H1
        go_wp2_with fail
        go_ret
        exact ⟨by rw [← Hr.out, Int.zero_sub]; rfl, hE⟩
      · have Hr := Lib.hid (show x = (G : Int) by have := H1.out; omega)
        clear H1
        go_wp2_with fail
        go_ret
        exact ⟨by rw [← Hr.out]; rfl, hE⟩
    · obtain ⟨h1, h2, h3⟩ := HI.out
      obtain ⟨m, hm⟩ : ∃ m, m = x.tmod y := ⟨_, rfl⟩
      have hmb : m.natAbs < y.natAbs := by
        rw [hm, Int.natAbs_tmod]; exact Nat.mod_lt _ (by omega)
      have Hn := Lib.hid (show Int.gcd y m = G ∧ (-1000000000000000000 ≤ y ∧ y ≤ 1000000000000000000) ∧ (-1000000000000000000 ≤ m ∧ m ≤ 1000000000000000000) from ⟨by rw [hm, gcd_step]; exact h1, h3, by omega⟩)
      have hyb : (y == 0) = false := beq_eq_false_iff_ne.2 hy
      have hyb2 : (y != 0) = true := by simp [bne, hyb]
      have ht : x.tmod y = m := hm.symm
      have hw : IntKind.i64.wrap m = m := IntWalk.i64_in _ (by omega)
      clear h1 h2 h3 hm HI
      go_wp2_with fail
      go_quiet (fail)
      go_wp2_with fail
      go_roundw
      case rel => exact ⟨y, m, by go_num, by go_num, Hn, hE.drewN _⟩
      case measure => simp [intOf]; omega
set_option maxRecDepth 100000 in
set_option maxHeartbeats 1000000 in
theorem Without08_any {w : World} {v : Value} {x : List Int} {k : Nat} (hR : RowR w v x) (hk : k < x.length) (hl : x.length ≤ 1000000) :
    Calls Tryz.prog 153 #[v, .int .i64 k] w fun e w' => ∃ u, e = .returned u ∧ RowV w.heap.size w' u (x.eraseIdx k) ∧ Ext w w' := by
  obtain ⟨sa, gb, go, cap, rfl, hc, hS⟩ := hR
  obtain ⟨n, hn⟩ : ∃ n, n = x.length := ⟨_, rfl⟩
  obtain rfl := hS.addr (by rw [is_length]; omega)
  have H1 := Lib.hid (show RowR w (.slice (some ⟨gb, go, none⟩) k cap) (x.take k) from ⟨_, gb, go, cap, by rw [List.length_take]; congr 1; omega, by rw [List.length_take]; omega, by
    have := hS.take k; rwa [show (is x).take k = is (x.take k) by simp [is, List.map_take]] at this⟩)
  have H2 := Lib.hid (show RowR w (.slice (some ⟨gb, go + (k + 1), none⟩) (n - (k + 1)) (cap - (k + 1))) (x.drop (k + 1)) from ⟨_, gb, go + (k + 1), cap - (k + 1), by rw [List.length_drop, hn], by rw [List.length_drop]; omega, by
    have := (show Sl w (some ⟨gb, go + (k + 1), none⟩) gb (go + (k + 1)) ((is x).drop (k + 1)) from ⟨fun _ => rfl, fun i y hy => by rw [List.getElem?_drop] at hy; have := hS.cell _ _ hy; rwa [← Nat.add_assoc] at this⟩)
    rwa [show (is x).drop (k + 1) = is (x.drop (k + 1)) by simp [is, List.map_drop]] at this⟩)
  have hl1 : (x.take k).length = k := by rw [List.length_take]; omega
  have hl2 : (x.drop (k + 1)).length = n - (k + 1) := by rw [List.length_drop, hn]
  have He := Lib.hid (show x.take k ++ x.drop (k + 1) = x.eraseIdx k from (List.eraseIdx_eq_take_drop_succ x k).symm)
  rw [← hn] at hc hk hl ⊢
  generalize x.take k = A at *
  generalize x.drop (k + 1) = D at *
  have hkI : (k : Int) < (n : Int) := by omega
  have hkc : (k : Int) + 1 ≤ (cap : Int) := by omega
  have Hl1 := Lib.hid hl1
  have Hl2 := Lib.hid hl2
  clear hS hn hl1 hl2
  by_cases hcap : cap = k + 1
  · have hn1 : n = k + 1 := by omega
    subst hcap hn1
    have hD : D = [] := List.eq_nil_of_length_eq_zero (by have := Hl2.out; omega)
    have H3 := Lib.hid (show RowR w (.slice (some ⟨gb, go, none⟩) 0 0) D by rw [hD]; exact ⟨_, gb, go, 0, rfl, Nat.le_refl _, Sl.nil _ _ _ _⟩)
    clear hD
    go_enter Tryz.func153, Tryz.ntmps153
    go_wp2_with (first
      | (at_builtin; refine app_rows rfl _ _ 32 Tryz.underlying32 rfl (B := w.heap.size) (v := .slice none 0 0) rfl (RowV.nil _ _) (vx := .slice (some ⟨gb, go, none⟩) k (k + 1)) (by go_simp) H1.out (by rw [Hl1.out]; simp; omega) (Nat.le_refl _) ?_; intro v1 w1 hV1 hB1 hG1; rw [List.nil_append] at hV1; have hE1 := Ext.mk' hB1; have HV1 := Lib.hid hV1; have H2' := Lib.hid (H3.out.ext hE1); obtain ⟨s1, c1, rfl, hc1⟩ := hV1.row.len; clear hV1 hB1 hG1 H1)
      | (at_builtin; refine app_rows rfl _ _ 32 Tryz.underlying32 rfl (B := w.heap.size) rfl HV1.out (vx := .slice (some ⟨gb, go, none⟩) 0 0) (by go_simp) H2'.out (by rw [Hl1.out, Hl2.out]; omega) hE1.size ?_; intro v2 w2 hV2 hB2 hG2; rw [He.out] at hV2; have hE2 := Ext.mk' (Below.trans hE1 hB2); have HV2 := Lib.hid hV2; clear hB2 hG2; obtain ⟨s2, c2, rfl, hc2⟩ := hV2.row.len; clear hV2))
    go_ret
    exact ⟨_, rfl, HV2.out, hE2⟩
  · go_enter Tryz.func153, Tryz.ntmps153
    go_wp2_with (first
      | (at_builtin; refine app_rows rfl _ _ 32 Tryz.underlying32 rfl (B := w.heap.size) (v := .slice none 0 0) rfl (RowV.nil _ _) (vx := .slice (some ⟨gb, go, none⟩) k cap) (by go_simp) H1.out (by rw [Hl1.out]; simp; omega) (Nat.le_refl _) ?_; intro v1 w1 hV1 hB1 hG1; rw [List.nil_append] at hV1; have hE1 := Ext.mk' hB1; have HV1 := Lib.hid hV1; have H2' := Lib.hid (H2.out.ext hE1); obtain ⟨s1, c1, rfl, hc1⟩ := hV1.row.len; clear hV1 hB1 hG1 H1)
      | (at_builtin; refine app_rows rfl _ _ 32 Tryz.underlying32 rfl (B := w.heap.size) rfl HV1.out (vx := .slice (some ⟨gb, go + (k + 1), none⟩) (n - (k + 1)) (cap - (k + 1))) (by go_simp) H2'.out (by rw [Hl1.out, Hl2.out]; omega) hE1.size ?_; intro v2 w2 hV2 hB2 hG2; rw [He.out] at hV2; have hE2 := Ext.mk' (Below.trans hE1 hB2); have HV2 := Lib.hid hV2; clear hB2 hG2; obtain ⟨s2, c2, rfl, hc2⟩ := hV2.row.len; clear hV2))
    go_ret
    exact ⟨_, rfl, HV2.out, hE2⟩
end Go.Proofs.YtcklioolpicmcaaGreatDoor
