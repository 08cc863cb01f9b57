/- Part 34 of the proof of the claim: contracts of the functions that it reaches, and plain laws; no condition. -/
import Derived.Test.YtkjnjmihfonilaaGreatDoorX27
import Derived.Test.YtkjnjmihfonilaaGreatDoorX32
import Derived.Test.YtkjnjmihfonilaaGreatDoorX33
import Derived.Test.YtkjnjmihfonilaaGreatDoorX12
import Derived.Test.YtkjnjmihfonilaaGreatDoorX26
import Derived.Test.YtkjnjmihfonilaaGreatDoorX24
import Derived.Test.YtkjnjmihfonilaaGreatDoorX28
import Derived.Test.YtkjnjmihfonilaaGreatDoorX19
import Derived.Test.YtkjnjmihfonilaaGreatDoorX15
namespace Go.Proofs.YtkjnjmihfonilaaGreatDoor
open Go.RowKit Go.Sort
theorem solve_num : ∀ (n c : Fin 5), 2 * ((bC n.val 30 (c.val + n.val) + (bC n.val 30 (c.val + n.val) + 1) * n.val) + ((bC n.val 30 (c.val + n.val) + (bC n.val 30 (c.val + n.val) + 1) * n.val) + 1) * n.val) + 6 < LIM := by decide +kernel
theorem checkM_rect {c : Nat} {A : Mx} (hR : Rect c A) (hl : A.length ≤ 12) (hc : c ≤ 12) (hs : SmK A) : checkM A = 0 := by
  unfold checkM
  rw [if_neg (by omega)]
  refine chk_all _ _ fun j hj => ?_
  have hj' := hR _ (List.getElem_mem hj)
  have h0 : (A.getD 0 []).length = c := by rw [getD_get (by omega)]; exact hR _ (List.getElem_mem _)
  have hg : A[j].any grt = false := by
    cases h : A[j].any grt
    · rfl
    · obtain ⟨z, hz, hg⟩ := List.any_eq_true.1 h
      have := hs _ (List.getElem_mem hj) z hz
      unfold grt at hg
      have := of_decide_eq_true hg
      omega
  unfold chkR
  rw [if_neg (by omega), if_neg (by omega), hg]; rfl
def PrePost (w : World) (n : Nat) (C M : Mx) (r : List Int) (e : Ending) (w' : World) : Prop :=
  Ext w w' ∧ ((∃ v x, e = .returned (.tuple #[v, .int .i64 0]) ∧ RowV w.heap.size w' v x ∧ PreOK n C M r x) ∨ e = .returned (.tuple #[.slice none 0 0, .int .i64 4]))
theorem small_chk {l : List Int} (h : smallB l = true) (hl : l.length ≤ 64) : chkRow l = 0 := by
  unfold chkRow
  rw [if_neg (by omega)]
  have : l.any grt = false := by
    cases hg : l.any grt
    · rfl
    · obtain ⟨z, hz, hzg⟩ := List.any_eq_true.1 hg
      have := smallB_iff.1 h z hz
      unfold grt at hzg
      have := of_decide_eq_true hzg
      omega
  rw [this]; rfl
set_option maxRecDepth 100000 in
set_option maxHeartbeats 4000000 in
theorem gpreimage_any {w : World} {P : List Int} {C M : Mx} {sp : Option Addr} {cp : Nat} {sc : Option Addr} {lc cc : Nat} {sm : Option Addr} {lm cm : Nat} {sx : Option Addr} {nx cx : Nat} {r : List Int} (h : TmV w P C M M sp cp sc lc cc sm lm cm) (hx : RowR w (.slice sx nx cx) r) (hrl : r.length = M.length) (hck : chkRow r = 0) (hL : Laid w) :
    Calls Tryz.prog 47 #[tmS P sp cp sc lc cc sm lm cm, .slice sx nx cx] w (PrePost w P.length C M r) := by
  have hp0 := h.ok.p0
  have hp4 := h.ok.p4
  obtain ⟨psM, hIM⟩ := h.ok.kM.1
  obtain ⟨psC, hIC⟩ := h.ok.kC.1
  have hlM := isH_len hIM
  have hnx : nx = r.length := by obtain ⟨_, _, _, _, e, _⟩ := hx; injection e
  rw [hrl] at hnx
  have hX := (Ext.refl w).alloc (.cells #[.slice sp P.length cp, .slice sc lc cc, .slice sm lm cm] 34)
  have x0 : (w.alloc (.cells #[.slice sp P.length cp, .slice sc lc cc, .slice sm lm cm] 34)).cell? ⟨w.heap.size, 0, none⟩ = some (.slice sp P.length cp) := by go_simp
  have x1 : (w.alloc (.cells #[.slice sp P.length cp, .slice sc lc cc, .slice sm lm cm] 34)).cell? ⟨w.heap.size, 1, none⟩ = some (.slice sc lc cc) := by go_simp
  have x2 : (w.alloc (.cells #[.slice sp P.length cp, .slice sc lc cc, .slice sm lm cm] 34)).cell? ⟨w.heap.size, 2, none⟩ = some (.slice sm lm cm) := by go_simp
  by_cases h0 : M.length = 0
  · have Hpz := Lib.hid (pre_zero h.ok h0)
    have hr0 : r = [] := List.eq_nil_of_length_eq_zero (by omega)
    obtain ⟨i0, hi, hz0, hz1, hz2⟩ := info_parts Tryz.infoInt
    have hn0 : nx = 0 := by omega
    subst hn0
    have Hr0 := Lib.hid hr0
    have hsz : (w.alloc (.cells #[.slice sp P.length cp, .slice sc lc cc, .slice sm lm cm] 34)).heap.size = w.heap.size + 1 := by simp
    have Hsz := Lib.hid hsz
    clear h hx hrl hck hL hIM hIC hlM h0 hnx hr0 hsz
    go_enter Tryz.func47, Tryz.ntmps47
    go_wp2_with (at_make; refine wpList_make_full _ rfl _ _ 26 rfl w.heap.size 3 i0 (.int .i64 0) 1 Tryz.underlying26 hi hz0 hz1 .i64 .i64 _ _ P.length rfl rfl (by omega) (by omega) (by rw [hz2]; omega) (by unfold maxLen; omega) (by simp) ?_; intro w1 hown1 hgrow1)
    have hE1 := hX.trans (ext_grown hgrow1)
    have hb0 := zero_row hown1
    rw [World.size_alloc] at hb0
    have Hb := Lib.hid hb0
    clear hown1 hgrow1 hX hb0
    go_wp2_with fail
    go_ret2
    exact ⟨hE1, .inl ⟨_, _, rfl, Hb.out, by rw [Hr0.out]; exact Hpz.out⟩⟩
  · have hnc : ncols M = P.length := by
      unfold ncols
      rw [getD_get (by omega)]; exact hIM.rect _ (List.getElem_mem _)
    have hckM := (chk_of_form hIM (by omega) (by omega) h.ok.sM).1
    have htr := fun W (hW : Ext w W) => transpose_any (h.hM.ext hW) hckM
    rw [hnc] at htr
    have Htr := Lib.hid htr
    obtain ⟨A, hA⟩ : ∃ A, A = trM P.length M := ⟨_, rfl⟩
    have hAR : Rect M.length A := by rw [hA]; exact trM_rect _ _
    have hAl : A.length = P.length := by rw [hA]; simp
    have hAs : SmK A := by rw [hA]; exact trM_ent h.ok.sM (by omega)
    have hAc : ncols A = M.length := by rw [hA]; exact trM_ncols hp0
    have hsz0 : sizeE A r = 0 := by
      unfold sizeE
      rw [if_pos (checkM_rect hAR (by omega) (by omega) hAs), if_pos hck, if_neg (by rw [hAc]; omega)]
    have hnum := solve_num ⟨P.length, by omega⟩ ⟨M.length, by omega⟩
    have hso := Lib.hid (fun W v (hW : Ext w W) (hv : MatR W v A) => Solve_any (c := M.length) (E := bC A.length 30 (M.length + A.length)) hv (hx.ext hW) hsz0 (by omega) hAc.symm rfl (by rw [hAl]; exact hnum) (hL.ext hW))
    have hre := Lib.hid (fun W va (y : List Int) (k : Nat) (hW : Ext w W) (hv : RowV k W va y) (hy : y.length = P.length) (hs : smallB y = true) (s : Option Addr) (m c : Nat) (e : va = .slice s m c) => show Calls Tryz.prog 51 #[latv P.length (.slice sc lc cc), .slice s m c] W (LrpPost W C y) by
      subst e
      exact lRepresent_any (x := y) (h.hC.ext hW) hIC hp0 hp4 h.ok.sC hv.row hy (small_chk (l := y) hs (by rw [hy]; omega)) (hL.ext hW))
    have Hnf := Lib.hid (fun H (hH : HnfOf (M.length + A.length) (wideM A) H) => (sol_zero hAR hH hrl).2 (by
      rw [hA] at hH ⊢; exact onto h.ok.kM hH hrl))
    have Hpre := Lib.hid (fun H (hH : HnfOf (M.length + A.length) (wideM A) H) (hs : smallB (redX C (solX M.length H A.length r)) = true) => by
      have hxl : (solX M.length H A.length r).length = P.length := by rw [solX_length hrl, hAl]
      have hcm := solX_cmb hAR hH hrl (Hnf.out H hH)
      have hH2 := hH
      rw [hA] at hH2 hcm
      rw [hA] at hxl
      have := pre_of h.ok hH2 hrl hxl hcm (by rw [← hA]; exact smallB_iff.1 hs)
      rw [← hA] at this
      exact this)
    have Hxl := Lib.hid (fun H => show (solX M.length H A.length r).length = P.length by rw [solX_length hrl, hAl])
    rw [← hA] at Htr
    have h0I : ¬ (nx : Int) = 0 := by omega
    have h0b : ((nx : Int) == 0) = false := beq_eq_false_iff_ne.2 h0I
    clear h hx hrl hck hL hIM hIC hlM h0 hnx hnc hckM htr hA hAR hAl hAs hAc hsz0 hnum
    go_enter Tryz.func47, Tryz.ntmps47
    go_wp2_with fail
    refine (Htr.out _ hX).mono ?_
    rintro e X1 ⟨u, rfl, hu, hE1⟩
    have y0 := hE1.cell x0
    have y1 := hE1.cell x1
    have e1 := hX.trans hE1
    have hso1 := Lib.hid (hso.out _ _ e1 hu.mat)
    obtain ⟨ua, ul, uk, rfl⟩ := hu.slice
    clear x0 x1 x2 hX hE1 hu hso Htr
    go_wp2_with fail
    refine hso1.out.mono ?_
    rintro e X2 ⟨H, hH, hE2, (⟨hz, rfl⟩ | ⟨hz, hb, v, rfl, hv⟩ | ⟨hz, hb, rfl⟩)⟩
    · exact absurd (Hnf.out H hH) hz
    · have z0 := hE2.cell y0
      have z1 := hE2.cell y1
      have e2 := e1.trans hE2
      have hre1 := Lib.hid (hre.out _ _ _ _ e2 hv (Hxl.out H) hb)
      have hvs : ∃ s m c, v = .slice s m c := by obtain ⟨a, _, _, k, e, _⟩ := hv.row; exact ⟨_, _, _, e⟩
      obtain ⟨va, vl, vk, rfl⟩ := hvs
      have hre2 := Lib.hid (hre1.out _ _ _ rfl)
      have Hp := Lib.hid (Hpre.out H hH)
      have hsz := e2.size
      clear hre1 hre hv hz hb hE2 y0 y1 hso1 Hpre Hnf Hxl hH
      generalize solX M.length H A.length r = xs at *
      go_wp2_with fail
      refine hre2.out.mono ?_
      rintro e X3 ⟨hE3, (⟨hs, v3, rfl, hv3⟩ | ⟨hs, rfl⟩)⟩
      · have Hv := Lib.hid (hv3.mono hsz)
        have Hp2 := Lib.hid (Hp.out hs)
        have e3 := e2.trans hE3
        clear hv3 hs hre2 Hp
        go_wp2_with fail
        go_ret2
        exact ⟨e3, .inl ⟨_, _, rfl, Hv.out, Hp2.out⟩⟩
      · have e3 := e2.trans hE3
        clear hs
        go_wp2_with fail
        go_ret2
        exact ⟨e3, .inr rfl⟩
    · have e2 := e1.trans hE2
      clear hz hb
      go_wp2_with fail
      go_ret2
      exact ⟨e2, .inr rfl⟩
end Go.Proofs.YtkjnjmihfonilaaGreatDoor
namespace Go.Proofs.YtkjnjmihfonilaaGreatDoor
open Go.RowKit Go.Sort
set_option maxRecDepth 100000 in
set_option maxHeartbeats 1000000 in
theorem rowZero_ok {w : World} {n : Nat} (hn : n ≤ 64) :
    Calls Tryz.prog 93 #[.int .i64 n] w fun e w' => ∃ g, e = .returned (.tuple #[slv g n n, .int .i64 0]) ∧ OwnV 3 w.heap.size w' g n (is (List.replicate n 0)) ∧ Ext w w' := by
  obtain ⟨i0, hi, hz0, hz1, hz2⟩ := info_parts Tryz.infoInt
  have h1 : ¬ (n : Int) < 0 := by omega
  have h2 : ¬ (n : Int) > 64 := by omega
  have h3 : ¬ (64 : Int) < (n : Int) := by omega
  go_enter Tryz.func93, Tryz.ntmps93
  go_wp2_with (at_make; refine wpList_make_full _ rfl _ _ 26 rfl w.heap.size 3 i0 (.int .i64 0) 1 Tryz.underlying26 hi hz0 hz1 .i64 .i64 _ _ n rfl rfl (by omega) (by omega) (by rw [hz2]; omega) (by unfold maxLen; omega) (Nat.le_refl _) ?_; intro w1 hown1 hgrow1)
  have hE1 := ext_grown hgrow1
  have hb0 : OwnV 3 w.heap.size w1 w.heap.size n (is (List.replicate n 0)) := row_ownV (zero_row hown1) (by simp)
  have Hb := Lib.hid hb0
  clear hb0 hown1 hgrow1
  go_wp2_with fail
  go_ret2
  exact ⟨_, rfl, Hb.out, hE1⟩
set_option maxRecDepth 100000 in
set_option maxHeartbeats 1000000 in
theorem rowUnit_ok {w : World} {n i : Nat} (hn : n ≤ 64) (hi : i < n) :
    Calls Tryz.prog 52 #[.int .i64 n, .int .i64 i] w fun e w' => ∃ g, e = .returned (.tuple #[slv g n n, .int .i64 0]) ∧ OwnV 3 w.heap.size w' g n (is (unitL n i)) ∧ Ext w w' := by
  have hz := Lib.hid (rowZero_ok (w := w) hn)
  have h1 : ¬ (i : Int) < 0 := by omega
  have h2 : ¬ (i : Int) ≥ (n : Int) := by omega
  have h3 : ¬ (n : Int) ≤ (i : Int) := by omega
  have h4 : (i : Int) < (n : Int) := by omega
  go_enter Tryz.func52, Tryz.ntmps52
  go_wp2_with fail
  refine hz.out.mono ?_
  rintro e w1 ⟨g, rfl, hO, hE1⟩
  have hcl := hO.cell (j := i) (by simpa using hi)
  have hfz := hO.frozen i
  obtain ⟨hO2, hG⟩ := hO.set i (.int .i64 1)
  rw [← is_set] at hO2
  have hE2 := ext_trans_grown hE1 hG hO.lt.1
  have Hq := Lib.hid (And.intro hO2 hE2)
  clear hz hO hO2 hE2 hG
  go_wp2_with fail
  go_ret2
  exact ⟨g, rfl, Hq.out.1, Hq.out.2⟩
end Go.Proofs.YtkjnjmihfonilaaGreatDoor
namespace Go.Proofs.YtkjnjmihfonilaaGreatDoor
open Go.RowKit Go.Sort
def SecPost (w : World) (n : Nat) (C M : Mx) (e : Ending) (w' : World) : Prop :=
  Ext w w' ∧ ((∃ v S, e = .returned (.tuple #[v, .int .i64 0]) ∧ MatO w.heap.size w' v S ∧ SecOK n C M S) ∨ e = .returned (.tuple #[.slice none 0 0, .int .i64 4]))
theorem unitL_chk {r i : Nat} (hr : r ≤ 64) : chkRow (unitL r i) = 0 := by
  refine small_chk (smallB_iff.2 fun z hz => ?_) (by simpa using hr)
  unfold unitL at hz
  rcases List.mem_or_eq_of_mem_set hz with h | h
  · have := (List.mem_replicate.1 h).2; omega
  · omega
def SecT (n : Nat) (C M S : Mx) : Prop := ∀ j (h : j < S.length), PreOK n C M (unitL M.length j) S[j]
theorem SecT.snoc {n : Nat} {C M S : Mx} {x : List Int} {i : Nat} (h : SecT n C M S) (hi : S.length = i) (hx : PreOK n C M (unitL M.length i) x) : SecT n C M (S ++ [x]) := fun j hj => by
  by_cases hlt : j < S.length
  · rw [List.getElem_append_left hlt]; exact h j hlt
  · have hje : j = i := by simp at hj; omega
    subst hje
    rw [List.getElem_append_right (by omega)]
    simp only [hi, Nat.sub_self, List.getElem_cons_zero]
    exact hx
set_option maxRecDepth 100000 in
set_option maxHeartbeats 4000000 in
theorem gSection_any {w : World} {P : List Int} {C M : Mx} {sp : Option Addr} {cp : Nat} {sc : Option Addr} {lc cc : Nat} {sm : Option Addr} {lm cm : Nat} (h : TmV w P C M M sp cp sc lc cc sm lm cm) (hL : Laid w) :
    Calls Tryz.prog 25 #[tmS P sp cp sc lc cc sm lm cm] w (SecPost w P.length C M) := by
  have hck := fun W (hW : Ext w W) => tCheck_any (h.ext hW) (hL.ext hW)
  rw [tmE_same] at hck
  have Hck := Lib.hid hck
  have hml : lm = M.length := by obtain ⟨_, _, _, _, _, e, _⟩ := h.hM; injection e
  subst hml
  obtain ⟨psM, hIM⟩ := h.ok.kM.1
  have hlM := isH_len hIM
  have hp4 := h.ok.p4
  have hpr := Lib.hid (fun W g i (hi : i < M.length) (hW : Ext w W) (hO : OwnV 3 0 W g M.length (is (unitL M.length i))) =>
    gpreimage_any (sx := some ⟨g, 0, none⟩) (nx := M.length) (cx := M.length) (h.ext hW) ⟨_, g, 0, M.length, by rw [unitL_length], by rw [unitL_length]; exact Nat.le_refl _, hO.sl⟩ (unitL_length _ _) (unitL_chk (by omega)) (hL.ext hW))
  have hX := (Ext.refl w).alloc (.cells #[.slice sp P.length cp, .slice sc lc cc, .slice sm M.length cm] 34)
  have x0 : (w.alloc (.cells #[.slice sp P.length cp, .slice sc lc cc, .slice sm M.length cm] 34)).cell? ⟨w.heap.size, 0, none⟩ = some (.slice sp P.length cp) := by go_simp
  have x1 : (w.alloc (.cells #[.slice sp P.length cp, .slice sc lc cc, .slice sm M.length cm] 34)).cell? ⟨w.heap.size, 1, none⟩ = some (.slice sc lc cc) := by go_simp
  have x2 : (w.alloc (.cells #[.slice sp P.length cp, .slice sc lc cc, .slice sm M.length cm] 34)).cell? ⟨w.heap.size, 2, none⟩ = some (.slice sm M.length cm) := by go_simp
  clear h hL hck hIM
  go_enter Tryz.func25, Tryz.ntmps25
  go_wp2_with fail
  refine (Hck.out _ hX).mono ?_
  rintro e X1 ⟨rfl, hE1⟩
  replace x0 := hE1.cell x0
  replace x1 := hE1.cell x1
  replace x2 := hE1.cell x2
  have e1 := hX.trans hE1
  clear hX hE1 Hck
  go_wp2_with fail
  go_loopw [5, 19] (fun out idx wr => ∃ (i : Nat) (S : Mx), i ≤ M.length ∧ idx = .int .i64 i ∧ Hid (MatO X1.heap.size wr out S) ∧ Hid (S.length = i ∧ SecT P.length C M S) ∧ Ext X1 wr) (fun _ idx _ => M.length - (intOf idx).toNat)
  case atStart => exact ⟨0, [], by omega, by go_num, Lib.hid (MatO.nil _ _), Lib.hid ⟨rfl, fun j h => by simp at h⟩, Ext.refl _⟩
  case round =>
    obtain ⟨i, S, hi, rfl, hO, hT, hE⟩ := hrel
    generalize wr = Y at *
    replace x0 := hE.cell x0
    replace x1 := hE.cell x1
    replace x2 := hE.cell x2
    have eY := e1.trans hE
    by_cases hlt : i < M.length
    · have hii : (i : Int) < (M.length : Int) := by omega
      have hun := Lib.hid (rowUnit_ok (w := Y) (n := M.length) (i := i) (by omega) hlt)
      go_wp2_with fail
      refine hun.out.mono ?_
      rintro e Y2 ⟨g, rfl, hU, hE2⟩
      replace x0 := hE2.cell x0
      replace x1 := hE2.cell x1
      replace x2 := hE2.cell x2
      have e2 := eY.trans hE2
      have hpr2 := Lib.hid (hpr.out _ g i hlt e2 (hU.mono (Nat.zero_le _)))
      have hE12 := hE.trans hE2
      clear hun hU
      go_wp2_with fail
      refine hpr2.out.mono ?_
      rintro e Y3 ⟨hE3, (⟨v, x, rfl, hv, hp⟩ | rfl)⟩
      · replace x0 := hE3.cell x0
        have hE13 := hE12.trans hE3
        have e3 := e2.trans hE3
        have hs2 := hE12.size
        have hs3 := hE13.size
        have hvs : ∃ s m c, v = .slice s m c := by obtain ⟨a, _, _, k, e, _⟩ := hv.row; exact ⟨_, _, _, e⟩
        obtain ⟨va, vl, vk, rfl⟩ := hvs
        have Hv := Lib.hid ((hv.mono hs2).ext ((Ext.refl Y3).alloc (.cells #[.slice va vl vk] 26)))
        have HO := Lib.hid ((hO.out.ext (hE2.trans hE3)).ext ((Ext.refl Y3).alloc (.cells #[.slice va vl vk] 26)))
        have HT := Lib.hid (hT.out.2.snoc hT.out.1 hp)
        have Hl := Lib.hid hT.out.1
        clear hv hp hO hT hpr2
        go_wp2_with (at_builtin; refine app_mat rfl _ _ rfl rfl HO.out rfl (b := Y3.heap.size) (r := x) (by go_simp) Hv.out (by rw [Hl.out]; omega) (by simp; omega) ?_; intro gg cap2 w8 hO8 hB8 hG8; rw [Hl.out] at hO8 ⊢)
        have hE8 : Ext X1 w8 := Ext.mk' (Below.trans (hE13.alloc (.cells #[.slice va vl vk] 26)) hB8)
        have HO8 := Lib.hid hO8
        clear hG8 hB8 hO8
        go_wp2_with fail
        go_roundw
        case rel => exact ⟨i + 1, S ++ [x], by omega, by go_num, HO8, Lib.hid ⟨by simp [Hl.out], HT.out⟩, hE8⟩
        case measure => simp [intOf] <;> omega
      · have e3 := e2.trans hE3
        go_wp2_with fail
        go_ret2
        exact ⟨e3, .inr rfl⟩
    · obtain rfl : i = M.length := by omega
      have Hq := Lib.hid (show MatO w.heap.size Y u5 S ∧ SecOK P.length C M S from ⟨hO.out.mono e1.size, hT.out.1, fun j hj => by
        have := hT.out.2 j hj
        exact ⟨this.len, this.tmp, this.rep, this.sm⟩⟩)
      go_wp2_with fail
      go_ret2
      exact ⟨eY, .inl ⟨_, S, rfl, Hq.out.1, Hq.out.2⟩⟩
end Go.Proofs.YtkjnjmihfonilaaGreatDoor
namespace Go.Proofs.YtkjnjmihfonilaaGreatDoor
open Go.RowKit Go.Sort
set_option maxRecDepth 100000 in
set_option maxHeartbeats 4000000 in
theorem tRepresent_ok {w : World} {P : List Int} {C M : Mx} {sp : Option Addr} {cp : Nat} {sc : Option Addr} {lc cc : Nat} {sm : Option Addr} {lm cm : Nat} {sx : Option Addr} {n cx : Nat} {x : List Int} (h : TmV w P C M M sp cp sc lc cc sm lm cm) (hx : RowR w (.slice sx n cx) x) (hb : bgE P.length x = 0) (hL : Laid w) :
    Calls Tryz.prog 23 #[tmS P sp cp sc lc cc sm lm cm, .slice sx n cx] w (LrpPost w C x) := by
  have hbe := fun W b (hW : Ext w W) (hc : W.cell? ⟨b, 0, none⟩ = some (.slice sx n cx)) => begin1_any (b := b) (h.ext hW) hc (hx.ext hW) (hL.ext hW)
  rw [hb] at hbe
  have Hbe := Lib.hid hbe
  have hbx : chkRow x = 0 ∧ x.length = P.length := by
    unfold bgE at hb
    split at hb
    · rename_i h1
      split at hb
      · rename_i h2; exact ⟨h1, h2⟩
      · cases hb
    · rename_i h1; exact absurd hb h1
  obtain ⟨hcx, hlx⟩ := hbx
  obtain ⟨psC, hIC⟩ := h.ok.kC.1
  have hp0 := h.ok.p0
  have hp4 := h.ok.p4
  have hre := Lib.hid (fun W (hW : Ext w W) => lRepresent_any (h.hC.ext hW) hIC hp0 hp4 h.ok.sC (hx.ext hW) hlx hcx (hL.ext hW))
  have hX := (Ext.refl w).alloc (.cells #[.slice sp P.length cp, .slice sc lc cc, .slice sm lm cm] 34)
  have x0 : (w.alloc (.cells #[.slice sp P.length cp, .slice sc lc cc, .slice sm lm cm] 34)).cell? ⟨w.heap.size, 0, none⟩ = some (.slice sp P.length cp) := by go_simp
  have x1 : (w.alloc (.cells #[.slice sp P.length cp, .slice sc lc cc, .slice sm lm cm] 34)).cell? ⟨w.heap.size, 1, none⟩ = some (.slice sc lc cc) := by go_simp
  have x2 : (w.alloc (.cells #[.slice sp P.length cp, .slice sc lc cc, .slice sm lm cm] 34)).cell? ⟨w.heap.size, 2, none⟩ = some (.slice sm lm cm) := by go_simp
  have xb : ((w.alloc (.cells #[.slice sp P.length cp, .slice sc lc cc, .slice sm lm cm] 34)).alloc (.cells #[.slice sx n cx] 26)).cell? ⟨w.heap.size + 1, 0, none⟩ = some (.slice sx n cx) := by go_simp
  clear hb h hx hcx hlx hIC hp0 hp4 hbe hL
  go_enter Tryz.func23, Tryz.ntmps23
  go_wp2_with fail
  refine (Hbe.out _ (w.heap.size + 1) (hX.alloc (.cells #[.slice sx n cx] 26)) xb).mono ?_
  generalize w.alloc (.cells #[.slice sp P.length cp, .slice sc lc cc, .slice sm lm cm] 34) = V at *
  rintro e X ⟨rfl, hE1⟩
  have y0 := hE1.cell (((Ext.refl V).alloc (.cells #[.slice sx n cx] 26)).cell x0)
  have y1 := hE1.cell (((Ext.refl V).alloc (.cells #[.slice sx n cx] 26)).cell x1)
  have e1 := (hX.alloc (.cells #[.slice sx n cx] 26)).trans hE1
  have hre1 := Lib.hid (hre.out _ e1)
  have hsz := e1.size
  clear x0 x1 x2 xb Hbe hX hE1 hre
  generalize P.length = np at *
  go_wp2_with fail
  refine hre1.out.mono ?_
  rintro e W ⟨hE, (⟨hb, v, rfl, hv⟩ | ⟨hb, rfl⟩)⟩
  · have hF := e1.trans hE
    have Hv := Lib.hid (hv.mono hsz)
    have Hb := Lib.hid hb
    clear hv hb
    go_wp2_with fail
    go_ret2
    exact ⟨hF, .inl ⟨Hb.out, _, rfl, Hv.out⟩⟩
  · have hF := e1.trans hE
    have Hb := Lib.hid hb
    clear hb
    go_wp2_with fail
    go_ret2
    exact ⟨hF, .inr ⟨Hb.out, rfl⟩⟩
end Go.Proofs.YtkjnjmihfonilaaGreatDoor
namespace Go.Proofs.YtkjnjmihfonilaaGreatDoor
open Go.RowKit Go.Sort
theorem nilM (w : World) : MatR w (.slice none 0 0) [] := (MatO.nil 0 w).mat
theorem sec_sym {w w' : World} {n : Nat} {C M : Mx} {e : Ending} (h : SecPost w n C M e w') :
    Ext w w' ∧ ∃ s m c k S, e = .returned (.tuple #[.slice s m c, .int .i64 k]) ∧ MatR w' (.slice s m c) S ∧ ((k = 0 ∧ SecOK n C M S) ∨ (k = 4 ∧ S = [])) := by
  obtain ⟨hE, (⟨v, S, rfl, hv, hS⟩ | rfl)⟩ := h
  · have hr := hv.mat
    obtain ⟨a, _, _, c, _, e, _⟩ := id hr
    subst e
    exact ⟨hE, _, _, _, 0, S, rfl, hr, .inl ⟨rfl, hS⟩⟩
  · exact ⟨hE, _, _, _, 4, [], rfl, nilM _, .inr ⟨rfl, rfl⟩⟩
end Go.Proofs.YtkjnjmihfonilaaGreatDoor
namespace Go.Proofs.YtkjnjmihfonilaaGreatDoor
open Go.RowKit Go.Sort
def gnB (r : Nat) (free : Int) (fl : Nat) : Bool := decide (r = 0 ∨ (free = 0 ∧ fl = 0))
set_option maxRecDepth 100000 in
set_option maxHeartbeats 4000000 in
theorem gGenerates_u {w : World} {P : List Int} {C M : Mx} {sp : Option Addr} {cp : Nat} {sc : Option Addr} {lc cc : Nat} {sm : Option Addr} {lm cm : Nat} {sl : Option Addr} {nl cl : Nat} {L : Mx} {free : Int} {fl : Nat} (h : TmV w P C M M sp cp sc lc cc sm lm cm) (hl : MatR w (.slice sl nl cl) L) (hL : Laid w)
    (hls0 : lsE P.length L = 0) (ha : allS M L = true) (hbig : L.length ≤ 1000000)
    (hq : 0 < M.length → ∀ W v, Ext w W → MatR W v (L.map (tmpL M)) → Calls Tryz.prog 54 #[v, .int .i64 M.length] W fun e w' => (∃ s c, e = .returned (.tuple #[.slice s fl c, .int .i64 free, .int .i64 0])) ∧ Ext W w') :
    Calls Tryz.prog 26 #[tmS P sp cp sc lc cc sm lm cm, .slice sl nl cl] w fun e w' => e = .returned (.tuple #[.bool (gnB M.length free fl), .int .i64 0]) ∧ Ext w w' := by
  have hml : lm = M.length := by obtain ⟨_, _, _, _, _, e, _⟩ := h.hM; injection e
  subst hml
  have htm := Lib.hid (fun W (hW : Ext w W) => gtempered_any (h.ext hW) (hl.ext hW) (hL.ext hW) hbig)
  have Hq := Lib.hid hq
  have Ha := Lib.hid ha
  have Hl0 := Lib.hid hls0
  have hX := (Ext.refl w).alloc (.cells #[.slice sp P.length cp, .slice sc lc cc, .slice sm M.length cm] 34)
  have x0 : (w.alloc (.cells #[.slice sp P.length cp, .slice sc lc cc, .slice sm M.length cm] 34)).cell? ⟨w.heap.size, 0, none⟩ = some (.slice sp P.length cp) := by go_simp
  have x1 : (w.alloc (.cells #[.slice sp P.length cp, .slice sc lc cc, .slice sm M.length cm] 34)).cell? ⟨w.heap.size, 1, none⟩ = some (.slice sc lc cc) := by go_simp
  have x2 : (w.alloc (.cells #[.slice sp P.length cp, .slice sc lc cc, .slice sm M.length cm] 34)).cell? ⟨w.heap.size, 2, none⟩ = some (.slice sm M.length cm) := by go_simp
  clear h hl hL hls0 ha hq
  go_enter Tryz.func26, Tryz.ntmps26
  go_wp2_with fail
  refine (htm.out _ hX).mono ?_
  rintro e X ⟨hE1, (⟨k1, _⟩ | ⟨_, k1, _⟩ | ⟨_, _, v, rfl, hv⟩)⟩
  · exact absurd Hl0.out k1
  · rw [Ha.out] at k1; cases k1
  · have y2 := hE1.cell x2
    have e1 := hX.trans hE1
    have Hq1 := Lib.hid (fun h0 => Hq.out h0 X v e1 hv.mat)
    obtain ⟨va, vl, vc, rfl⟩ := hv.slice
    clear Hq hv htm hE1 x0 x1 x2 hX
    by_cases h0 : M.length = 0
    · have Hb := Lib.hid (show gnB M.length free fl = true by unfold gnB; exact decide_eq_true (.inl h0))
      rw [h0] at y2
      clear h0 Hq1
      go_wp2_with fail
      go_ret2
      exact ⟨by rw [Hb.out]; rfl, e1⟩
    · have h0I : ¬ (M.length : Int) = 0 := by omega
      have h0b : ((M.length : Int) == 0) = false := beq_eq_false_iff_ne.2 h0I
      have hq2 := Lib.hid (Hq1.out (by omega))
      have Hg := Lib.hid (show gnB M.length free fl = (decide (free = 0) && decide (fl = 0)) by simp [gnB, h0])
      clear h0 Hq1
      by_cases hf : free = 0
      · subst hf
        by_cases hl0 : fl = 0
        · subst hl0
          go_wp2_with fail
          refine hq2.out.mono ?_
          rintro e X2 ⟨⟨s, c, rfl⟩, hE2⟩
          have e2 := e1.trans hE2
          go_wp2_with fail
          go_ret2
          exact ⟨by rw [Hg.out]; rfl, e2⟩
        · have hlI : ¬ (fl : Int) = 0 := by omega
          have hlb : ((fl : Int) == 0) = false := beq_eq_false_iff_ne.2 hlI
          have Hd := Lib.hid (decide_eq_false hl0)
          clear hl0
          go_wp2_with fail
          refine hq2.out.mono ?_
          rintro e X2 ⟨⟨s, c, rfl⟩, hE2⟩
          have e2 := e1.trans hE2
          go_wp2_with fail
          go_ret2
          exact ⟨by rw [Hg.out, Hd.out]; rfl, e2⟩
      · have hfb : (free == 0) = false := beq_eq_false_iff_ne.2 hf
        have Hd := Lib.hid (decide_eq_false hf)
        go_wp2_with fail
        refine hq2.out.mono ?_
        rintro e X2 ⟨⟨s, c, rfl⟩, hE2⟩
        have e2 := e1.trans hE2
        go_wp2_with fail
        go_ret2
        exact ⟨by rw [Hg.out, Hd.out]; rfl, e2⟩
end Go.Proofs.YtkjnjmihfonilaaGreatDoor
namespace Go.Proofs.YtkjnjmihfonilaaGreatDoor
open Go.RowKit Go.Sort
structure Wa where
  p : Nat
  ga : Nat
  ca : Nat
  gl : Nat
  cl : Nat
  gr : Nat
  cr : Nat
structure WkR (B : Nat) (w : World) (n c : Nat) (x : Wa) (aa al ar : List (Nat × Nat)) (s : Dg) : Prop where
  c0 : w.cell? ⟨x.p, 0, none⟩ = some (slv x.ga n x.ca)
  c1 : w.cell? ⟨x.p, 1, none⟩ = some (slv x.gl n x.cl)
  c2 : w.cell? ⟨x.p, 2, none⟩ = some (slv x.gr c x.cr)
  c3 : w.cell? ⟨x.p, 3, none⟩ = some (.int .i64 c)
  a : GrX B w (slv x.ga s.a.length x.ca) s.a aa
  l : GrX B w (slv x.gl s.l.length x.cl) s.l al
  r : GrX B w (slv x.gr s.r.length x.cr) s.r ar
  la : s.a.length = n
  ll : s.l.length = n
  lr : s.r.length = c
  ra : Rect c s.a
  rl : Rect n s.l
  rr : Rect c s.r
  pB : B ≤ x.p
  po : x.p ≠ x.ga ∧ x.p ≠ x.gl ∧ x.p ≠ x.gr
  pi : (∀ y ∈ aa, y.1 ≠ x.p) ∧ (∀ y ∈ al, y.1 ≠ x.p) ∧ ∀ y ∈ ar, y.1 ≠ x.p
  oo : x.ga ≠ x.gl ∧ x.ga ≠ x.gr ∧ x.gl ≠ x.gr
  ii : (∀ y ∈ aa, ∀ z ∈ al, y.1 ≠ z.1) ∧ (∀ y ∈ aa, ∀ z ∈ ar, y.1 ≠ z.1) ∧ ∀ y ∈ al, ∀ z ∈ ar, y.1 ≠ z.1
section
variable {B : Nat} {w w' : World} {n c : Nat} {x : Wa} {aa al ar : List (Nat × Nat)} {s : Dg}
theorem WkR.ext (h : WkR B w n c x aa al ar s) (he : Ext w w') : WkR B w' n c x aa al ar s :=
  ⟨he.cell h.c0, he.cell h.c1, he.cell h.c2, he.cell h.c3, h.a.ext he, h.l.ext he, h.r.ext he, h.la, h.ll, h.lr, h.ra, h.rl, h.rr, h.pB, h.po, h.pi, h.oo, h.ii⟩
theorem GrX.atM {g cap m i : Nat} {F : Mx} {ad : List (Nat × Nat)} (h : GrX B w (slv g F.length cap) F ad) (hR : Rect m F) (hm : 0 < m) (hi : i < F.length) :
    ∃ gx cx, ad[i]? = some (gx, cx) ∧ (gx, cx) ∈ ad ∧ w.cell? ⟨g, i, none⟩ = some (slv gx m cx) ∧ OwnV 80 B w gx cx (ss (F.getD i [])) ∧ (F.getD i []).length = m ∧ ∀ k, k < m → w.cell? ⟨gx, k, none⟩ = some (I (eM F i k)) := by
  obtain ⟨gx, cx, h1, h2, h3, h4, h5⟩ := h.at hR hm hi
  refine ⟨gx, cx, h1, List.mem_of_getElem? h1, h2, h3, h5, fun k hk => ?_⟩
  rw [h3.cell (j := k) (by rw [ss_length, h5]; exact hk)]
  exact congrArg some (ss_at (by rw [h5]; exact hk) _)
theorem GrX.neM {g cap m i t gi ci gt ct : Nat} {F : Mx} {ad : List (Nat × Nat)} (h : GrX B w (slv g F.length cap) F ad) (hR : Rect m F) (hm : 0 < m) (hi : i < F.length) (ht : t < F.length) (hne : i ≠ t) (hai : ad[i]? = some (gi, ci)) (hat : ad[t]? = some (gt, ct)) : gi ≠ gt := by
  obtain ⟨h1, e1⟩ := List.getElem?_eq_some_iff.1 hai
  obtain ⟨h2, e2⟩ := List.getElem?_eq_some_iff.1 hat
  have := h.dis i t h1 h2 hi ht (by rw [hR _ (List.getElem_mem hi)]; exact hm) (by rw [hR _ (List.getElem_mem ht)]; exact hm) hne
  rw [e1, e2] at this
  exact this
theorem rect_set {m i : Nat} {F : Mx} {r : List Int} (hR : Rect m F) (hr : r.length = m) : Rect m (F.set i r) := fun s hs => by
  rcases List.mem_or_eq_of_mem_set hs with hs | rfl
  · exact hR s hs
  · exact hr
theorem sw2_mem {α : Type} {l : List α} {d : α} {i j : Nat} (hi : i < l.length) (hj : j < l.length) {y : α} (h : y ∈ sw2 l d i j) : y ∈ l := by
  obtain ⟨t, ht, rfl⟩ := List.getElem_of_mem h
  rw [sw2_get l d hi hj ht]; exact List.getElem_mem _
theorem GrX.keepG {g cap : Nat} {F : Mx} {ad : List (Nat × Nat)} {q : Nat} (h : GrX B w (slv g F.length cap) F ad) (hG : w.grownBy w' (some q)) (hg : g ≠ q) (ha : ∀ y ∈ ad, y.1 ≠ q) : GrX B w' (slv g F.length cap) F ad :=
  h.keep (Chg.of_grown (R := fun k => k = q) hG rfl) hg (fun _ hi _ _ => ha _ (List.getElem_mem hi))
theorem WkR.setA {i gx cx : Nat} {u : List Int} (h : WkR B w n c x aa al ar s) (hc : 0 < c) (hi : i < n) (hai : aa[i]? = some (gx, cx)) (hu : u.length = c) (hO : OwnV 80 B w' gx cx (ss u)) (hG : w.grownBy w' (some gx)) : WkR B w' n c x aa al ar { s with a := s.a.set i u } := by
  have hm := List.mem_of_getElem? hai
  have hin : i < s.a.length := by rw [h.la]; exact hi
  obtain ⟨gx', cx', e1, _, _, o1, l1, _⟩ := h.a.atM h.ra hc hin
  rw [hai] at e1; injection e1 with e1; injection e1 with e1 e2; subst e1 e2
  have hC : Chg (fun k => k = gx) w w' := Chg.of_grown hG rfl
  have hp : x.p ≠ gx := Ne.symm (h.pi.1 _ hm)
  have h1 := h.a.wrote (r := u) hin hai (by rw [hu, l1]) (by omega) hO hC
  refine ⟨hC.cell hp h.c0, hC.cell hp h.c1, hC.cell hp h.c2, hC.cell hp h.c3, ?_, h.l.keepG hG (Ne.symm (ne_outer h.l.outer o1)) (fun y hy => Ne.symm (h.ii.1 _ hm y hy)), h.r.keepG hG (Ne.symm (ne_outer h.r.outer o1)) (fun y hy => Ne.symm (h.ii.2.1 _ hm y hy)), ?_, h.ll, h.lr, rect_set h.ra hu, h.rl, h.rr, h.pB, h.po, h.pi, h.oo, h.ii⟩
  · show GrX B w' (slv x.ga (s.a.set i u).length x.ca) _ _
    rw [List.length_set]; exact h1
  · show (s.a.set i u).length = n
    rw [List.length_set]; exact h.la
theorem WkR.setL {i gx cx : Nat} {u : List Int} (h : WkR B w n c x aa al ar s) (hi : i < n) (hai : al[i]? = some (gx, cx)) (hu : u.length = n) (hO : OwnV 80 B w' gx cx (ss u)) (hG : w.grownBy w' (some gx)) : WkR B w' n c x aa al ar { s with l := s.l.set i u } := by
  have hm := List.mem_of_getElem? hai
  have hin : i < s.l.length := by rw [h.ll]; exact hi
  obtain ⟨gx', cx', e1, _, _, o1, l1, _⟩ := h.l.atM h.rl (by omega) hin
  rw [hai] at e1; injection e1 with e1; injection e1 with e1 e2; subst e1 e2
  have hC : Chg (fun k => k = gx) w w' := Chg.of_grown hG rfl
  have hp : x.p ≠ gx := Ne.symm (h.pi.2.1 _ hm)
  have h1 := h.l.wrote (r := u) hin hai (by rw [hu, l1]) (by omega) hO hC
  refine ⟨hC.cell hp h.c0, hC.cell hp h.c1, hC.cell hp h.c2, hC.cell hp h.c3, h.a.keepG hG (Ne.symm (ne_outer h.a.outer o1)) (fun y hy => h.ii.1 y hy _ hm), ?_, h.r.keepG hG (Ne.symm (ne_outer h.r.outer o1)) (fun y hy => Ne.symm (h.ii.2.2 _ hm y hy)), h.la, ?_, h.lr, h.ra, rect_set h.rl hu, h.rr, h.pB, h.po, h.pi, h.oo, h.ii⟩
  · show GrX B w' (slv x.gl (s.l.set i u).length x.cl) _ _
    rw [List.length_set]; exact h1
  · show (s.l.set i u).length = n
    rw [List.length_set]; exact h.ll
theorem WkR.setR {i gx cx : Nat} {u : List Int} (h : WkR B w n c x aa al ar s) (hi : i < c) (hai : ar[i]? = some (gx, cx)) (hu : u.length = c) (hO : OwnV 80 B w' gx cx (ss u)) (hG : w.grownBy w' (some gx)) : WkR B w' n c x aa al ar { s with r := s.r.set i u } := by
  have hm := List.mem_of_getElem? hai
  have hin : i < s.r.length := by rw [h.lr]; exact hi
  obtain ⟨gx', cx', e1, _, _, o1, l1, _⟩ := h.r.atM h.rr (by omega) hin
  rw [hai] at e1; injection e1 with e1; injection e1 with e1 e2; subst e1 e2
  have hC : Chg (fun k => k = gx) w w' := Chg.of_grown hG rfl
  have hp : x.p ≠ gx := Ne.symm (h.pi.2.2 _ hm)
  have h1 := h.r.wrote (r := u) hin hai (by rw [hu, l1]) (by omega) hO hC
  refine ⟨hC.cell hp h.c0, hC.cell hp h.c1, hC.cell hp h.c2, hC.cell hp h.c3, h.a.keepG hG (Ne.symm (ne_outer h.a.outer o1)) (fun y hy => h.ii.2.1 y hy _ hm), h.l.keepG hG (Ne.symm (ne_outer h.l.outer o1)) (fun y hy => h.ii.2.2 y hy _ hm), ?_, h.la, h.ll, ?_, h.ra, h.rl, rect_set h.rr hu, h.pB, h.po, h.pi, h.oo, h.ii⟩
  · show GrX B w' (slv x.gr (s.r.set i u).length x.cr) _ _
    rw [List.length_set]; exact h1
  · show (s.r.set i u).length = c
    rw [List.length_set]; exact h.lr
theorem WkR.swapA {i j gi ci gj cj : Nat} (h : WkR B w n c x aa al ar s) (hc : 0 < c) (hi : i < n) (hj : j < n) (hai : aa[i]? = some (gi, ci)) (haj : aa[j]? = some (gj, cj)) :
    WkR B ((w.setCell ⟨x.ga, i, none⟩ (slv gj c cj)).setCell ⟨x.ga, j, none⟩ (slv gi c ci)) n c x (sw2 aa (0, 0) i j) al ar { s with a := sw2 s.a [] i j }
      ∧ w.grownBy ((w.setCell ⟨x.ga, i, none⟩ (slv gj c cj)).setCell ⟨x.ga, j, none⟩ (slv gi c ci)) (some x.ga) := by
  have hi' : i < s.a.length := by rw [h.la]; exact hi
  have hj' : j < s.a.length := by rw [h.la]; exact hj
  have hia : i < aa.length := by rw [h.a.len]; exact hi'
  have hja : j < aa.length := by rw [h.a.len]; exact hj'
  obtain ⟨h1, hG, h3⟩ := h.a.swapped h.ra hc hi' hj' hai haj
  have hC : Chg (fun k => k = x.ga) w _ := Chg.of_grown hG rfl
  have hp := h.po.1
  have ha : ∀ y ∈ sw2 aa (0, 0) i j, y ∈ aa := fun y hy => sw2_mem hia hja hy
  refine ⟨⟨hC.cell hp h.c0, hC.cell hp h.c1, hC.cell hp h.c2, hC.cell hp h.c3, ?_, h.l.keepG hG (Ne.symm h.oo.1) (fun y hy e => ?_), h.r.keepG hG (Ne.symm h.oo.2.1) (fun y hy e => ?_), ?_, h.ll, h.lr, h3, h.rl, h.rr, h.pB, h.po, ⟨fun y hy => h.pi.1 y (ha y hy), h.pi.2⟩, h.oo, ⟨fun y hy => h.ii.1 y (ha y hy), fun y hy => h.ii.2.1 y (ha y hy), h.ii.2.2⟩⟩, hG⟩
  · show GrX B _ (slv x.ga (sw2 s.a [] i j).length x.ca) _ _
    rw [sw2_length]; exact h1
  · obtain ⟨t, ht, rfl⟩ := List.getElem_of_mem hy
    have hts : t < s.l.length := by rw [← h.l.len]; exact ht
    have hO := h.l.row t hts ht (by rw [h.rl _ (List.getElem_mem hts)]; omega)
    exact ne_outer h.a.outer hO e
  · obtain ⟨t, ht, rfl⟩ := List.getElem_of_mem hy
    have hts : t < s.r.length := by rw [← h.r.len]; exact ht
    have hO := h.r.row t hts ht (by rw [h.rr _ (List.getElem_mem hts)]; omega)
    exact ne_outer h.a.outer hO e
  · show (sw2 s.a [] i j).length = n
    rw [sw2_length]; exact h.la
theorem WkR.swapL {i j gi ci gj cj : Nat} (h : WkR B w n c x aa al ar s) (hc : 0 < c) (hi : i < n) (hj : j < n) (hai : al[i]? = some (gi, ci)) (haj : al[j]? = some (gj, cj)) :
    WkR B ((w.setCell ⟨x.gl, i, none⟩ (slv gj n cj)).setCell ⟨x.gl, j, none⟩ (slv gi n ci)) n c x aa (sw2 al (0, 0) i j) ar { s with l := sw2 s.l [] i j }
      ∧ w.grownBy ((w.setCell ⟨x.gl, i, none⟩ (slv gj n cj)).setCell ⟨x.gl, j, none⟩ (slv gi n ci)) (some x.gl) := by
  have hi' : i < s.l.length := by rw [h.ll]; exact hi
  have hj' : j < s.l.length := by rw [h.ll]; exact hj
  have hia : i < al.length := by rw [h.l.len]; exact hi'
  have hja : j < al.length := by rw [h.l.len]; exact hj'
  obtain ⟨h1, hG, h3⟩ := h.l.swapped h.rl (by omega) hi' hj' hai haj
  have hC : Chg (fun k => k = x.gl) w _ := Chg.of_grown hG rfl
  have hp := h.po.2.1
  have ha : ∀ y ∈ sw2 al (0, 0) i j, y ∈ al := fun y hy => sw2_mem hia hja hy
  refine ⟨⟨hC.cell hp h.c0, hC.cell hp h.c1, hC.cell hp h.c2, hC.cell hp h.c3, h.a.keepG hG h.oo.1 (fun y hy e => ?_), ?_, h.r.keepG hG (Ne.symm h.oo.2.2) (fun y hy e => ?_), h.la, ?_, h.lr, h.ra, h3, h.rr, h.pB, h.po, ⟨h.pi.1, fun y hy => h.pi.2.1 y (ha y hy), h.pi.2.2⟩, h.oo, ⟨fun y hy z hz => h.ii.1 y hy z (ha z hz), h.ii.2.1, fun y hy => h.ii.2.2 y (ha y hy)⟩⟩, hG⟩
  · obtain ⟨t, ht, rfl⟩ := List.getElem_of_mem hy
    have hts : t < s.a.length := by rw [← h.a.len]; exact ht
    have hO := h.a.row t hts ht (by rw [h.ra _ (List.getElem_mem hts)]; omega)
    exact ne_outer h.l.outer hO e
  · show GrX B _ (slv x.gl (sw2 s.l [] i j).length x.cl) _ _
    rw [sw2_length]; exact h1
  · obtain ⟨t, ht, rfl⟩ := List.getElem_of_mem hy
    have hts : t < s.r.length := by rw [← h.r.len]; exact ht
    have hO := h.r.row t hts ht (by rw [h.rr _ (List.getElem_mem hts)]; omega)
    exact ne_outer h.l.outer hO e
  · show (sw2 s.l [] i j).length = n
    rw [sw2_length]; exact h.ll
end
theorem ix_a (w : World) (g n a h m b : Nat) : (Instr.index 254 (.agg #[slv g n a, slv h m b]) (.int .i64 0)).run Tryz.prog w = .ok (slv g n a) w := by
  simp [Instr.index, run_underlying Tryz.underlying254, asIntOf, go_sem]
theorem ix_b (w : World) (g n a h m b : Nat) : (Instr.index 254 (.agg #[slv g n a, slv h m b]) (.int .i64 1)).run Tryz.prog w = .ok (slv h m b) w := by
  simp [Instr.index, run_underlying Tryz.underlying254, asIntOf, go_sem]
def mapTo (f : List Int → List Int) (j : Nat) (A : Mx) : Mx := A.mapIdx fun t l => if t < j then f l else l
@[simp] theorem mapTo_length (f : List Int → List Int) (j : Nat) (A : Mx) : (mapTo f j A).length = A.length := by simp [mapTo]
theorem mapTo_get (f : List Int → List Int) (j : Nat) (A : Mx) {t : Nat} (h : t < A.length) : (mapTo f j A)[t]'(by simpa using h) = if t < j then f A[t] else A[t] := by simp [mapTo]
theorem mapTo_zero (f : List Int → List Int) (A : Mx) : mapTo f 0 A = A := List.ext_getElem (by simp) fun t h1 h2 => by rw [mapTo_get f 0 A h2, if_neg (by omega)]
theorem mapTo_all (f : List Int → List Int) (A : Mx) : mapTo f A.length A = A.map f := List.ext_getElem (by simp) fun t h1 h2 => by
  have ht : t < A.length := by simpa using h1
  rw [mapTo_get f _ A ht, if_pos ht, List.getElem_map]
theorem mapTo_at (f : List Int → List Int) {j : Nat} {A : Mx} (h : j < A.length) : (mapTo f j A).getD j [] = A.getD j [] := by
  rw [getD_get (by simpa using h), mapTo_get f j A h, if_neg (by omega), getD_get h]
theorem mapTo_step (f : List Int → List Int) {j : Nat} {A : Mx} (h : j < A.length) : mapTo f (j + 1) A = (mapTo f j A).set j (f (A.getD j [])) := by
  refine List.ext_getElem (by simp) fun t h1 h2 => ?_
  have ht : t < A.length := by simpa using h1
  rw [mapTo_get f _ A ht]
  by_cases e : j = t
  · subst e; rw [List.getElem_set_self, if_pos (by omega), getD_get h]
  · rw [List.getElem_set_ne e, mapTo_get f _ A ht]
    by_cases h3 : t < j
    · rw [if_pos h3, if_pos (by omega)]
    · rw [if_neg h3, if_neg (by omega)]
end Go.Proofs.YtkjnjmihfonilaaGreatDoor
