/- Part 28 of the proof of the claim: contracts of the functions that it reaches, and plain laws; no condition. -/
import Derived.Test.YtcklioolpicmcaaGreatDoorV27
import Derived.Test.YtcklioolpicmcaaGreatDoorV12
import Derived.Test.YtcklioolpicmcaaGreatDoorV11
import Derived.Test.YtcklioolpicmcaaGreatDoorV25
import Derived.BigQuiet
namespace Go.Proofs.YtcklioolpicmcaaGreatDoor
open Go.RowKit Go.Sort
theorem MatX.outer {B : Nat} {w : World} {g cap n L : Nat} {F : Mx} {ad : List (Nat × Nat)} (h : MatX B w (slv g L cap) n F ad) (hL : L = F.length) : OwnV 32 B w g cap (hdX n ad) := by
  subst hL
  unfold OwnV
  rw [hdX_length, h.len]; exact h.own
theorem MatX.ne {B : Nat} {w : World} {g cap n L : Nat} {F : Mx} {ad : List (Nat × Nat)} (h : MatX B w (slv g L cap) n F ad) {i : Nat} (hi : i < ad.length) : ad[i].1 ≠ g := fun e => by
  have hi' : i < F.length := by rw [← h.len]; exact hi
  have := own_ne (ownV_row (n := n) (h.row i hi' hi) (h.rect _ (List.getElem_mem hi'))) h.own (by decide) (g := ad[i].1) rfl
  exact this (by rw [e]; rfl)
theorem MatX.hd {B : Nat} {w : World} {g cap n L : Nat} {F : Mx} {ad : List (Nat × Nat)} (h : MatX B w (slv g L cap) n F ad) (hL : L = F.length) {i : Nat} (hi : i < ad.length) : w.cell? ⟨g, i, none⟩ = some (slv ad[i].1 n ad[i].2) := by
  have h1 := (h.outer hL).cell (j := i) (by rw [hdX_length]; exact hi)
  rw [hdX_get n hi] at h1
  exact h1
theorem MatX.setRow {B : Nat} {w w' : World} {g cap n L i : Nat} {F : Mx} {ad : List (Nat × Nat)} {r : List Int} (h : MatX B w (slv g L cap) n F ad) (hL : L = F.length) (hi : i < ad.length) (hO : OwnV 3 B w' ad[i].1 ad[i].2 (is r)) (hG : w.grownBy w' (some ad[i].1)) (hr : r.length = n) : MatX B w' (slv g L cap) n (F.set i r) ad := by
  have hout := (h.outer hL).other hG (Ne.symm (h.ne hi))
  refine ⟨by rw [List.length_set]; exact h.len, rect_set h.rect hr, ?_, fun k hk hk' => ?_, h.dis⟩
  · unfold OwnV at hout
    rw [hdX_length, h.len] at hout
    rw [List.length_set, hL]; exact hout
  · by_cases e : i = k
    · subst e
      rw [List.getElem_set_self]; exact hO
    · rw [List.getElem_set_ne e]
      refine (h.row k (by simpa using hk) hk').other hG ?_
      rcases Nat.lt_or_gt_of_ne e with hlt | hlt
      · exact Ne.symm (h.dis i k hi hk' hlt)
      · exact h.dis k i hk' hi hlt
def mixT (r s : List Int) (q : Int) (n k : Nat) : List Int := (List.range n).map fun j => if j < k then r.getD j 0 - q * s.getD j 0 else r.getD j 0
@[simp] theorem mixT_length (r s : List Int) (q : Int) (n k : Nat) : (mixT r s q n k).length = n := by simp [mixT]
def colT (M : Mx) (k n : Nat) : List Int := (List.range n).map fun r => eM M r k
def colP (M : Mx) (N k n : Nat) : List Int := (List.range N).map fun r => if r < n then eM M r k else 0
def trT (M : Mx) (N c : Nat) : Mx := (List.range c).map fun k => colT M k N
@[simp] theorem colP_length (M : Mx) (N k n : Nat) : (colP M N k n).length = N := by simp [colP]
@[simp] theorem colT_length (M : Mx) (k N : Nat) : (colT M k N).length = N := by simp [colT]
@[simp] theorem trT_length (M : Mx) (N c : Nat) : (trT M N c).length = c := by simp [trT]
theorem ncols_of {M : Mx} {c : Nat} (h : 0 < M.length) (hR : Rect c M) : ncols M = c := by
  unfold ncols; rw [getD_get h]; exact hR _ (List.getElem_mem h)
end Go.Proofs.YtcklioolpicmcaaGreatDoor
namespace Go.Proofs.YtcklioolpicmcaaGreatDoor
open Go.RowKit Go.Sort
end Go.Proofs.YtcklioolpicmcaaGreatDoor
namespace Go.Proofs.YtcklioolpicmcaaGreatDoor
open Go.RowKit Go.Sort
end Go.Proofs.YtcklioolpicmcaaGreatDoor
namespace Go.Proofs.YtcklioolpicmcaaGreatDoor
open Go.RowKit Go.Sort
set_option maxRecDepth 100000 in
set_option maxHeartbeats 1000000 in
theorem least0_w {w : World} {p n cap : Nat} {sa : Option Addr} (h0 : w.cell? ⟨p, 0, none⟩ = some (.slice sa n cap)) (h3 : w.cell? ⟨p, 3, none⟩ = some (.int .i64 0)) (hn : n ≤ 1000) :
    Calls Tryz.prog 133 #[.pointer (some ⟨p, 0, none⟩), .int .i64 0] w fun e w' => e = .returned (.tuple #[.int .i64 0, .int .i64 0, .bool false]) ∧ Ext w w' := by
  go_enter Tryz.func133, Tryz.ntmps133
  go_wp2_with fail
  go_loopw [4, 5, 6, 7, 8] (fun a b f iv _ wr => ∃ i : Nat, i ≤ n ∧ iv = .int .i64 i ∧ a = .int .i64 0 ∧ b = .int .i64 0 ∧ f = .bool false ∧ Hid (wr = w)) (fun _ _ _ iv _ _ => n - (intOf iv).toNat)
  case atStart => exact ⟨0, by omega, by go_num, rfl, rfl, rfl, Lib.hid rfl⟩
  case round =>
    obtain ⟨i, hi, rfl, rfl, rfl, rfl, hw⟩ := hrel
    obtain rfl := hw.out
    by_cases hlt : i < n
    · have hii : (i : Int) < (n : Int) := by omega
      go_wp2_with fail
      go_loop [4, 5, 6, 8] (fun a b f idx => a = .int .i64 0 ∧ b = .int .i64 0 ∧ f = .bool false ∧ idx = .int .i64 0) (fun _ _ _ _ => 0)
      case atStart => exact ⟨rfl, rfl, rfl, rfl⟩
      case round =>
        obtain ⟨rfl, rfl, rfl, rfl⟩ := hrel
        go_wp2_with fail
        go_roundw
        case rel => exact ⟨i + 1, by omega, by go_num, rfl, rfl, rfl, Lib.hid (by first | rfl | trivial)⟩
        case measure => simp [intOf] <;> omega
    · have hii : ¬ (i : Int) < (n : Int) := by omega
      go_wp2_with fail
      go_ret3
      exact ⟨rfl, Ext.refl _⟩
theorem grid_set {w1 w2 w4 : World} {va v : Value} {M : Mx} (h : GridR w1 va M) (he : Ext w1 w4) (hs : w1.heap.size ≤ w2.heap.size) : GridR (w4.setCell ⟨w2.heap.size, 2, none⟩ v) va M := by
  have hx : Ext w1 (w4.setCell ⟨w2.heap.size, 2, none⟩ v) := ext_trans_grown he (grown_set _ _ _ _) hs
  exact h.ext hx
def Dia0 (w : World) (M : Mx) (e : Ending) (w' : World) : Prop := ∃ p va, e = .returned (.tuple #[.pointer (some ⟨p, 0, none⟩), .int .i64 0]) ∧ w'.cell? ⟨p, 0, none⟩ = some va ∧ GridR w' va M ∧ Ext w w'
set_option maxRecDepth 100000 in
set_option maxHeartbeats 4000000 in
theorem diagonal0_any {w : World} {v : Value} {M : Mx} (hM : MatR w v M) (hR : Rect 0 M) (hn : M.length ≤ 12) (hL : Laid w) : Calls Tryz.prog 84 #[v] w (Dia0 w M) := by
  have hbig := Lib.hid (sbig_any (w := w) hM (by omega) (fun r hr => by rw [hR r hr]; omega) (fun r hr z hz => by have h1 := hR r hr; have h2 : r = [] := List.eq_nil_of_length_eq_zero h1; rw [h2] at hz; cases hz) hL)
  have hrow := fun (h0 : 0 < M.length) => (show ∃ s0 c0, v = .slice (some s0) M.length c0 ∧ ∃ sr cr, w.cell? s0 = some (.slice sr 0 cr) from by
    obtain ⟨sa, gb, go, cp, vs, rfl, hcp, hvl, hS, hr⟩ := hM
    obtain ⟨sr, br, or, cr, hrow, _, _⟩ := MatR.row hS hvl hr h0
    obtain rfl := hS.addr (by omega)
    rw [hR _ (List.getElem_mem h0)] at hrow
    exact ⟨_, _, rfl, _, _, hrow⟩)
  obtain ⟨sa, gb, go, cp, vs, rfl, hcp, hvl, hS, hr⟩ := hM
  obtain ⟨n, hnn⟩ : ∃ n, n = M.length := ⟨_, rfl⟩
  have hun := Lib.hid (fun W => sunit_any (w := W) (n := n) (by omega))
  have huc := Lib.hid (fun W => sunit_any (w := W) (n := 0) (by omega))
  rw [← hnn] at hbig hrow hn ⊢
  have Hnn := Lib.hid hnn
  clear hS hvl hr hcp hL hnn
  rcases Nat.eq_zero_or_pos n with hn0 | hn0
  · subst hn0
    go_enter Tryz.func84, Tryz.ntmps84
    go_wp2_with fail
    refine hbig.out.mono ?_
    rintro e w1 ⟨v1, ad1, rfl, hG1, hX1⟩
    go_wp2_with fail
    refine (hun.out w1).mono ?_
    rintro e w2 ⟨v2, ad2, rfl, hG2, hX2⟩
    obtain ⟨ga, ca, rfl, hca, hs1⟩ := hG1.shape
    obtain ⟨gl, cl, rfl, hcl, hs2⟩ := hG2.shape
    rw [← Hnn.out] at hca ⊢
    rw [unitM_length] at hcl ⊢
    have HG1 := Lib.hid hG1.gridR
    clear hG1 hG2 hbig hun hs1 hs2
    go_wp2_with fail
    obtain ⟨W3, hW3⟩ : ∃ W3, W3 = w2.alloc (.cells #[.slice ga 0 ca, .slice gl 0 cl, .slice none 0 0, .int .i64 0] 133) := ⟨_, rfl⟩
    have c0 : W3.cell? ⟨w2.heap.size, 0, none⟩ = some (.slice ga 0 ca) := by rw [hW3]; go_simp
    have c2 : W3.cell? ⟨w2.heap.size, 2, none⟩ = some (.slice none 0 0) := by rw [hW3]; go_simp
    have c3 : W3.cell? ⟨w2.heap.size, 3, none⟩ = some (.int .i64 0) := by rw [hW3]; go_simp
    have fz : W3.frozen? ⟨w2.heap.size, 2, none⟩ = false := by rw [hW3]; go_simp
    have hX3 : Ext w2 W3 := by rw [hW3]; exact (Ext.refl w2).alloc _
    have hs3 : w2.heap.size < W3.heap.size := by rw [hW3]; simp
    rw [← hW3]
    clear hW3
    refine (huc.out W3).mono ?_
    rintro e w4 ⟨v4, ad4, rfl, hG4, hX4⟩
    obtain ⟨gr, cr4, rfl, hcr4, hs4⟩ := hG4.shape
    rw [unitM_length] at hcr4 ⊢
    have d0 := hX4.cell c0
    have d2 := hX4.cell c2
    have d3 := hX4.cell c3
    have fz4 : w4.frozen? ⟨w2.heap.size, 2, none⟩ = false := (Ext.frozen (a := W3) (b := w4) hX4 (by exact hs3)).trans fz
    have hX14 := (hX1.trans hX2).trans (hX3.trans hX4)
    have HG5 := Lib.hid (HG1.out.ext (hX2.trans (hX3.trans hX4)))
    clear hG4 huc c0 c2 c3 fz hs4
    go_wp2_with fail
    have hsz4 := hX4.size
    have hsw1 := hX1.size
    have hsw2 := hX2.size
    have hG6 : w4.grownBy (w4.setCell ⟨w2.heap.size, 2, none⟩ (.slice gr 0 cr4)) (some w2.heap.size) := grown_set _ _ _ _
    have hX5 : Ext w (w4.setCell ⟨w2.heap.size, 2, none⟩ (.slice gr 0 cr4)) := ext_trans_grown hX14 hG6 (by omega)
    have e0 : (w4.setCell ⟨w2.heap.size, 2, none⟩ (.slice gr 0 cr4)).cell? ⟨w2.heap.size, 0, none⟩ = some (.slice ga 0 ca) := by rw [World.cell?_setCell_other (h := by simp)]; exact d0
    have e3 : (w4.setCell ⟨w2.heap.size, 2, none⟩ (.slice gr 0 cr4)).cell? ⟨w2.heap.size, 3, none⟩ = some (.int .i64 0) := by rw [World.cell?_setCell_other (h := by simp)]; exact d3
    have HX2 := Lib.hid (hX1.trans hX2)
    obtain ⟨p, hp⟩ : ∃ p, p = w2.heap.size := ⟨_, rfl⟩
    have hgX := grid_set (v := .slice gr 0 cr4) HG1.out (hX2.trans (hX3.trans hX4)) (by omega : w1.heap.size ≤ w2.heap.size)
    rw [← Hnn.out] at hgX
    have HgX := Lib.hid hgX
    clear hgX
    generalize hW5 : World.setCell w4 _ _ = W5 at *
    rw [← hp] at e0 e3 ⊢
    have hle := Lib.hid (fun W (hW : Ext W5 W) => least0_w (hW.cell e0) (hW.cell e3) (by omega))
    clear hW5 d0 d2 d3 fz4 hG6 HG1 HG5 hp
    go_wp2_with fail
    go_loop [5] (fun idx => idx = .int .i64 0) (fun _ => 0)
    case atStart => rfl
    case round =>
      obtain rfl := hrel
      go_wp2_with fail
      refine (hle.out _ (Ext.refl _)).mono ?_
      rintro e w6 ⟨rfl, hE6⟩
      have Hres := Lib.hid (show Dia0 w M (.returned (.tuple #[.pointer (some ⟨p, 0, none⟩), .int .i64 0])) w6 from ⟨p, _, rfl, hE6.cell e0, by rw [show (Value.slice ga 0 ca) = .slice ga 0 ca from rfl]; exact HgX.out.ext hE6, hX5.trans hE6⟩)
      clear e0 e3 hle
      go_wp2_with fail
      go_ret2
      exact Hres.out
  · obtain ⟨s0, k0, he, sr, cr, hrc⟩ := hrow hn0
    injection he with he1 _ he3
    subst he1 he3
    have hnI : (0 : Int) < (n : Int) := by omega
    clear hrow
    go_enter Tryz.func84, Tryz.ntmps84
    go_wp2_with fail
    refine hbig.out.mono ?_
    rintro e w1 ⟨v1, ad1, rfl, hG1, hX1⟩
    go_wp2_with fail
    refine (hun.out w1).mono ?_
    rintro e w2 ⟨v2, ad2, rfl, hG2, hX2⟩
    obtain ⟨ga, ca, rfl, hca, hs1⟩ := hG1.shape
    obtain ⟨gl, cl, rfl, hcl, hs2⟩ := hG2.shape
    rw [← Hnn.out] at hca ⊢
    rw [unitM_length] at hcl ⊢
    have HG1 := Lib.hid hG1.gridR
    have hrow1 := (hX1.trans hX2).cell hrc
    have hgb := World.block_lt_of_cell? _ _ hrow1
    clear hG1 hG2 hbig hun hs1 hs2
    go_wp2_with fail
    obtain ⟨W3, hW3⟩ : ∃ W3, W3 = w2.alloc (.cells #[.slice ga n ca, .slice gl n cl, .slice none 0 0, .int .i64 0] 133) := ⟨_, rfl⟩
    have c0 : W3.cell? ⟨w2.heap.size, 0, none⟩ = some (.slice ga n ca) := by rw [hW3]; go_simp
    have c2 : W3.cell? ⟨w2.heap.size, 2, none⟩ = some (.slice none 0 0) := by rw [hW3]; go_simp
    have c3 : W3.cell? ⟨w2.heap.size, 3, none⟩ = some (.int .i64 0) := by rw [hW3]; go_simp
    have fz : W3.frozen? ⟨w2.heap.size, 2, none⟩ = false := by rw [hW3]; go_simp
    have hX3 : Ext w2 W3 := by rw [hW3]; exact (Ext.refl w2).alloc _
    have hs3 : w2.heap.size < W3.heap.size := by rw [hW3]; simp
    rw [← hW3]
    clear hW3
    clear hrow1 hgb hrc
    refine (huc.out W3).mono ?_
    rintro e w4 ⟨v4, ad4, rfl, hG4, hX4⟩
    obtain ⟨gr, cr4, rfl, hcr4, hs4⟩ := hG4.shape
    rw [unitM_length] at hcr4 ⊢
    have d0 := hX4.cell c0
    have d2 := hX4.cell c2
    have d3 := hX4.cell c3
    have fz4 : w4.frozen? ⟨w2.heap.size, 2, none⟩ = false := (Ext.frozen (a := W3) (b := w4) hX4 (by exact hs3)).trans fz
    have hX14 := (hX1.trans hX2).trans (hX3.trans hX4)
    have HG5 := Lib.hid (HG1.out.ext (hX2.trans (hX3.trans hX4)))
    clear hG4 huc c0 c2 c3 fz hs4
    go_wp2_with fail
    have hsz4 := hX4.size
    have hsw1 := hX1.size
    have hsw2 := hX2.size
    have hG6 : w4.grownBy (w4.setCell ⟨w2.heap.size, 2, none⟩ (.slice gr 0 cr4)) (some w2.heap.size) := grown_set _ _ _ _
    have hX5 : Ext w (w4.setCell ⟨w2.heap.size, 2, none⟩ (.slice gr 0 cr4)) := ext_trans_grown hX14 hG6 (by omega)
    have e0 : (w4.setCell ⟨w2.heap.size, 2, none⟩ (.slice gr 0 cr4)).cell? ⟨w2.heap.size, 0, none⟩ = some (.slice ga n ca) := by rw [World.cell?_setCell_other (h := by simp)]; exact d0
    have e3 : (w4.setCell ⟨w2.heap.size, 2, none⟩ (.slice gr 0 cr4)).cell? ⟨w2.heap.size, 3, none⟩ = some (.int .i64 0) := by rw [World.cell?_setCell_other (h := by simp)]; exact d3
    have HX2 := Lib.hid (hX1.trans hX2)
    obtain ⟨p, hp⟩ : ∃ p, p = w2.heap.size := ⟨_, rfl⟩
    have hgX := grid_set (v := .slice gr 0 cr4) HG1.out (hX2.trans (hX3.trans hX4)) (by omega : w1.heap.size ≤ w2.heap.size)
    rw [← Hnn.out] at hgX
    have HgX := Lib.hid hgX
    clear hgX
    generalize hW5 : World.setCell w4 _ _ = W5 at *
    rw [← hp] at e0 e3 ⊢
    have hle := Lib.hid (fun W (hW : Ext W5 W) => least0_w (hW.cell e0) (hW.cell e3) (by omega))
    clear hW5 d0 d2 d3 fz4 hG6 HG1 HG5 hp
    go_wp2_with fail
    go_loop [5] (fun idx => idx = .int .i64 0) (fun _ => 0)
    case atStart => rfl
    case round =>
      obtain rfl := hrel
      go_wp2_with fail
      refine (hle.out _ (Ext.refl _)).mono ?_
      rintro e w6 ⟨rfl, hE6⟩
      have Hres := Lib.hid (show Dia0 w M (.returned (.tuple #[.pointer (some ⟨p, 0, none⟩), .int .i64 0])) w6 from ⟨p, _, rfl, hE6.cell e0, by rw [show (Value.slice ga n ca) = .slice ga n ca from rfl]; exact HgX.out.ext hE6, hX5.trans hE6⟩)
      clear e0 e3 hle
      go_wp2_with fail
      go_ret2
      exact Hres.out
theorem rect0_smallM {M : Mx} (hR : Rect 0 M) : smallM M = true := by
  unfold smallM
  refine List.all_eq_true.2 fun r hr => ?_
  rw [List.eq_nil_of_length_eq_zero (hR r hr)]; rfl
theorem rect0_nd {M : Mx} (hR : Rect 0 M) : ∀ r ∈ M, r.length ≤ 1000000 ∧ ∀ z ∈ r, nd z ≤ LIM := fun r hr => by
  rw [List.eq_nil_of_length_eq_zero (hR r hr)]
  exact ⟨by simp, fun z hz => by cases hz⟩
theorem check0 {M : Mx} (hR : Rect 0 M) (hn : M.length ≤ 3) : checkM M = 0 := by
  unfold checkM
  rw [if_neg (by omega)]
  refine chk_all _ M fun j hj => ?_
  have h1 := hR _ (List.getElem_mem hj)
  have h2 : M[j] = [] := List.eq_nil_of_length_eq_zero h1
  have h3 : (M.getD 0 []).length = 0 := by rw [getD_get (by omega)]; exact hR _ (List.getElem_mem _)
  rw [h3, h2]
  rfl
set_option maxRecDepth 100000 in
set_option maxHeartbeats 2000000 in
theorem Form0_any {w : World} {v : Value} {M : Mx} (hM : MatR w v M) (hR : Rect 0 M) (hn : M.length ≤ 3) (hL : Laid w) :
    Calls Tryz.prog 30 #[v] w fun e w' => ∃ u, e = .returned (.tuple #[u, .int .i64 0]) ∧ MatO w.heap.size w' u M ∧ Ext w w' := by
  have hch := Lib.hid (tableCheck_any hM)
  rw [check0 hR hn] at hch
  have hdg := Lib.hid (fun W (hW : Ext w W) => diagonal0_any (hM.ext hW) hR (by omega) (hL.ext hW))
  have hsm := Lib.hid (fun W va (hW : Ext w W) (hK : GridR W va M) => ssmall_any hK (by omega) (fun r hr => (rect0_nd hR r hr).1) (fun r hr => (rect0_nd hR r hr).2) (hL.ext hW))
  have Hok := Lib.hid (rect0_smallM hR)
  obtain ⟨sa, gb, go, cap, vs, rfl, _, _, _, _⟩ := hM
  clear hR hL hn
  go_enter Tryz.func30, Tryz.ntmps30
  go_wp2_with fail
  refine hch.out.mono ?_
  rintro e w1 ⟨rfl, hE1⟩
  go_wp2_with fail
  refine (hdg.out _ hE1).mono ?_
  rintro e w2 ⟨p, va, rfl, hcp, hG, hE2⟩
  have hX2 := hE1.trans hE2
  have hs2 := Lib.hid (hsm.out w2 va hX2 hG)
  obtain ⟨sg, gg, og, cg, vg, rfl, _⟩ := hG
  clear hch hdg hsm hE1 hE2
  go_wp2_with fail
  refine hs2.out.mono ?_
  rintro e w3 ⟨hp, hE3⟩
  rw [if_pos Hok.out] at hp
  obtain ⟨u, rfl, hu⟩ := hp
  have Hres := Lib.hid (hu.mono hX2.size)
  have hX3 := hX2.trans hE3
  clear hu hs2 hE3
  go_wp2_with fail
  go_ret2
  exact ⟨u, rfl, Hres.out, hX3⟩
set_option maxRecDepth 100000 in
set_option maxHeartbeats 2000000 in
theorem Factors0_any {w : World} {v : Value} {M : Mx} (hM : MatR w v M) (hR : Rect 0 M) (hn : M.length ≤ 3) (hL : Laid w) :
    Calls Tryz.prog 29 #[v] w fun e w' => ∃ u, e = .returned (.tuple #[u, .int .i64 0]) ∧ RowV w.heap.size w' u [] ∧ Ext w w' := by
  have hch := Lib.hid (tableCheck_any hM)
  rw [check0 hR hn] at hch
  have hdg := Lib.hid (fun W (hW : Ext w W) => diagonal0_any (hM.ext hW) hR (by omega) (hL.ext hW))
  have HL := Lib.hid hL
  obtain ⟨sa, gb, go, cap, vs, rfl, _, _, _, _⟩ := hM
  clear hR hL hn
  go_enter Tryz.func29, Tryz.ntmps29
  go_wp2_with fail
  refine hch.out.mono ?_
  rintro e w1 ⟨rfl, hE1⟩
  go_wp2_with fail
  refine (hdg.out _ hE1).mono ?_
  rintro e w2 ⟨p, va, rfl, hcp, hG, hE2⟩
  have hX2 := hE1.trans hE2
  clear hch hdg hE1 hE2 hG hcp
  go_wp2_with fail
  go_loop [7, 22] (fun lv idx => lv = .slice none 0 0 ∧ idx = .int .i64 0) (fun _ _ => 0)
  case atStart => exact ⟨rfl, rfl⟩
  case round =>
    obtain ⟨rfl, rfl⟩ := hrel
    have hsml := Lib.hid (fun W bx (hY : Ext w2 W) (hbx : W.cell? ⟨bx, 0, none⟩ = some (.slice none 0 0)) =>
      ssmall_any (w := W) (v := .slice (some ⟨bx, 0, none⟩) 1 1) (M := [[]]) ⟨_, bx, 0, 1, [.slice none 0 0], rfl, Nat.le_refl _, rfl, ⟨fun _ => rfl, fun i x hx => by
        have : i = 0 := by have := (List.getElem?_eq_some_iff.1 hx).1; simp at this; omega
        subst this
        simp only [List.getElem?_cons_zero, Option.some.injEq] at hx
        rw [← hx]; exact hbx⟩, fun i a bb' => by
        have : i = 0 := by simp at a; omega
        subst this
        exact ⟨none, 0, 0, 0, rfl, Nat.le_refl _, Sl.nil _ _ _ _⟩⟩ (by simp) (fun r hr => by simp at hr; subst hr; simp) (fun r hr z hz => by simp at hr; subst hr; cases hz) (HL.out.ext (hX2.trans hY)))
    go_wp2_with fail
    refine (hsml.out _ w2.heap.size ((Ext.refl _).alloc _) (by go_simp)).mono ?_
    rintro e w9 ⟨hp9, hE11⟩
    have hfin := hX2.trans (((Ext.refl w2).alloc (.cells #[.slice none 0 0] 105)).trans hE11)
    rw [if_pos (by rfl)] at hp9
    obtain ⟨vr, rfl, hvr⟩ := hp9
    obtain ⟨vs9, hv1, hv2, hv3⟩ := hvr
    have h90 := hv3 0 (by simp) (by rw [hv1]; simp)
    rcases hv2.2 with ⟨_, h0'⟩ | ⟨g9, c9, cur9, rfl, _, _, hc9, _⟩
    · simp at h0'
    · have hc9' := World.ownsRow.cellAt hv2 0 (by simp)
      rw [List.getElem?_eq_getElem (by rw [hv1]; simp)] at hc9'
      simp only [List.length_singleton] at hc9 hc9'
      obtain ⟨rv, hrv⟩ : ∃ rv, rv = vs9[0]'(by rw [hv1]; simp) := ⟨_, rfl⟩
      rw [← hrv] at hc9' h90
      have hc10 : w9.cell? ⟨g9, 0, none⟩ = some rv := by simpa using hc9'
      have hsz8 := (hX2.trans ((Ext.refl w2).alloc (.cells #[.slice none 0 0] 105))).size
      have Hres := Lib.hid (show RowV w.heap.size w9 rv [] from RowV.mono h90 hsz8)
      clear h90 hv1 hv2 hv3 hrv hc9'
      go_wp2_with fail
      go_ret2
      exact ⟨rv, rfl, Hres.out, hfin⟩
theorem fin_small {M : Mx} {n c rank : Nat} {s : Dg} (hn : n ≤ 3) (hf : FinD n c (eM M) rank s) (hb : ∀ i k, (eM M i k).natAbs ≤ 128) : smallM s.a = true := by
  have hD : FacIs M (diagL rank s.a) := ⟨n, c, rank, s, hn, hf, rfl⟩
  have hs := fac_small hD hb
  obtain ⟨hd, hp, hz⟩ := hf.dia hn
  unfold smallM
  refine List.all_eq_true.2 fun r hr => List.all_eq_true.2 fun z hz' => ?_
  obtain ⟨i, hi, rfl⟩ := List.getElem_of_mem hr
  obtain ⟨k, hk, rfl⟩ := List.getElem_of_mem hz'
  have he : (s.a[i])[k] = eM s.a i k := by unfold eM; rw [getD_get hi, getD_get hk]
  rw [he, hd.el]
  have hzb : ∀ z : Int, 0 ≤ z → z ≤ 1000000000 → (!grt z) = true := fun z h1 h2 => by
    unfold grt
    simp only [Bool.not_eq_true', decide_eq_false_iff_not]
    omega
  split
  · rcases Nat.lt_or_ge i rank with h | h
    · have h1 := hs (eM s.a i i) (List.mem_map.2 ⟨i, List.mem_range.2 h, rfl⟩)
      exact hzb _ (by omega) h1.2
    · rw [hz i h]; rfl
  · rfl
def FormIs (M F : Mx) : Prop := F.length = M.length ∧ Rect (ncols M) F ∧ ∃ rank s, FinD M.length (ncols M) (eM M) rank s ∧ F = s.a
set_option maxRecDepth 100000 in
set_option maxHeartbeats 2000000 in
theorem Form08_any {w : World} {v : Value} {M : Mx} (hM : MatR w v M) (h : SmF M) (hL : Laid w) :
    Calls Tryz.prog 30 #[v] w fun e w' => ∃ u, e = .returned (.tuple #[u, .int .i64 0]) ∧ (∃ F, MatO w.heap.size w' u F ∧ FormIs M F) ∧ Ext w w' := by
  obtain ⟨f, rank, fin, hr, hf, hB⟩ := h.run
  have hch := Lib.hid (tableCheck_any hM)
  rw [h.check] at hch
  have hent : ∀ r ∈ M, ∀ z ∈ r, -1000000000 ≤ z ∧ z ≤ 1000000000 := fun r hr z hz => by have := h.mem r hr z hz; omega
  have hdg := Lib.hid (fun W (hW : Ext w W) => diagonal_any (hM.ext hW) h.rect h.n0 h.c0 (by have := h.n3; omega) (by have := h.c3; omega) hent hr ed_lim (by unfold ED; omega) (hL.ext hW))
  have Hok := Lib.hid (fin_small h.n3 hf (fun i k => by have := h.ent i k; omega))
  have hl : fin.a.length = M.length := hf.inv.sh.la
  have hrc : Rect (ncols M) fin.a := hf.inv.sh.ra
  have hsm := Lib.hid (fun W va (hW : Ext w W) (hK : GridR W va fin.a) => ssmall_any hK (by rw [hl]; have := h.n3; omega) (fun r hr => by rw [hrc r hr]; have := h.c3; omega) (fun r hr z hz => by have h1 := nd_lt2 (hB r hr z hz); have h2 := ed_lim; omega) (hL.ext hW))
  have HF := Lib.hid (show FormIs M fin.a from ⟨hl, hrc, rank, fin, hf, rfl⟩)
  obtain ⟨sa, gb, go, cap, vs, rfl, _, _, _, _⟩ := hM
  clear hL hr hf hB hent hl hrc h
  go_enter Tryz.func30, Tryz.ntmps30
  go_wp2_with fail
  refine hch.out.mono ?_
  rintro e w1 ⟨rfl, hE1⟩
  go_wp2_with fail
  refine (hdg.out _ hE1).mono ?_
  rintro e w2 ⟨⟨p, ga, ca, gl, cl, gr, cr⟩, aa, al, ar, rfl, hW, hE2⟩
  have hX2 := hE1.trans hE2
  have hcA := hW.c0
  simp only at hcA
  have hG := hW.a.gridR
  rw [hW.la] at hG
  have hs2 := Lib.hid (hsm.out w2 _ hX2 hG)
  clear hch hdg hsm hE1 hE2 hW hG
  go_wp2_with fail
  refine hs2.out.mono ?_
  rintro e w3 ⟨hp, hE3⟩
  rw [if_pos Hok.out] at hp
  obtain ⟨u, rfl, hu⟩ := hp
  have Hres := Lib.hid (hu.mono hX2.size)
  have hX3 := hX2.trans hE3
  clear hu hs2 hE3
  go_wp2_with fail
  go_ret2
  exact ⟨u, rfl, ⟨_, Hres.out, HF.out⟩, hX3⟩
end Go.Proofs.YtcklioolpicmcaaGreatDoor
namespace Go.Proofs.YtcklioolpicmcaaGreatDoor
open Go.RowKit Go.Sort
theorem run_row {w : World} {B : Nat} {v : Value} {r : List Int} (t T : TypeId) (ht : Tryz.prog.underlying t = some (.slice 3)) (hown : RowV B w v r) {vx : Value} {z : List Int} (hR : RowR w vx z) (hl : r.length + z.length ≤ 1000000000) (hB : B ≤ w.heap.size) :
    ∃ v' w', (Builtin.append_ #[t, t] T #[v, vx]).run Tryz.prog w = .ok v' w' ∧ RowV B w' v' (r ++ z) ∧ w.grownBy w' v.ownBlock := by
  obtain ⟨i0, hi, hz0, hz1, hz2⟩ := info_parts Tryz.infoInt
  obtain ⟨sa, b, c, gc, rfl, hc, hS⟩ := hR
  have hrun : ∃ v' w', (Builtin.append_ #[t, t] T #[v, .slice sa z.length gc]).run Tryz.prog w = .ok v' w' ∧ w'.ownsRow B 3 1 v' (r.length + z.length) (is r ++ is z) ∧ w.grownBy w' v.ownBlock := by
    rcases sa with _ | ad
    · have hz : z = [] := by
        rcases Nat.eq_zero_or_pos z.length with h0 | h0
        · exact List.eq_nil_of_length_eq_zero h0
        · have := hS.addr (by rw [is_length]; exact h0)
          cases this
      subst hz
      refine ⟨v, w, ?_, by have h1 := hown; unfold RowV at h1; simpa [is] using h1, World.grownBy.refl w _⟩
      rcases hown.2 with ⟨rfl, h0⟩ | ⟨g, cap, cur, rfl, _, _, hnc, _⟩
      · simp [Builtin.append_, run_underlying ht, sizeOf, typeInfo, hi, Builtin.lenOf, Builtin.firstCells]
      · simp [Builtin.append_, run_underlying ht, sizeOf, typeInfo, hi, Builtin.lenOf, Builtin.firstCells, hnc, storeCells]
    · have hcells : ∀ j u, (is z)[j]? = some u → w.cell? (ad.add j) = some u := fun j u hu => by
        have hj := (List.getElem?_eq_some_iff.1 hu).1
        obtain rfl : ad = ⟨b, c, none⟩ := Option.some.inj (hS.addr (by omega))
        rw [Lib.add_plain]; exact hS.cell j u hu
      obtain ⟨v', w', h1, h2, h3, _, _⟩ := run_append_own_at (P := Tryz.prog) w B t T 3 i0 _ 1 8 ht hi hz0 hz1 hz2 rfl (by omega) v r.length (is r) hown ad z.length gc (is z) (by rw [is_length, Nat.mul_one]) hcells (fun u hu => by obtain ⟨y, _, rfl⟩ := List.mem_map.1 hu; rfl) (by unfold maxLen; omega) (by omega) hB
      exact ⟨v', w', h1, h2, h3⟩
  obtain ⟨v', w', h1, h2, h3⟩ := hrun
  refine ⟨v', w', h1, ?_, h3⟩
  unfold RowV
  have e : is (r ++ z) = is r ++ is z := by simp [is]
  rw [e, List.length_append]; exact h2
theorem row_lit0 {w : World} {T : TypeId} (hT : T = 3) : RowV w.heap.size (w.alloc (.cells #[] T)) (.slice (some ⟨w.heap.size, 0, none⟩) 0 0) [] := by
  subst hT
  exact OwnV.of (xs := []) (cap := 0) (Nat.le_refl _) Array.getElem?_push_size (by simp) (by unfold maxLen; omega) rfl rfl
end Go.Proofs.YtcklioolpicmcaaGreatDoor
namespace Go.Proofs.YtcklioolpicmcaaGreatDoor
open Go.RowKit Go.Sort
section
variable {w : World} {ops : Array Oper} {rest : List Oper} {o : Oper} {a : Act} {Q : Exit → Act → World → Prop}
theorem app_rows (hgd : o.guard = none) (s x : Operand) (t : TypeId) (ht : Tryz.prog.underlying t = some (.slice 3)) (ho : o.op = .call { callee := .builtin .append, args := #[s, x], argTypes := #[t, t] })
    {B : Nat} {v : Value} {r : List Int} (hs : a.eval s = v) (hown : RowV B w v r) {vx : Value} {z : List Int} (hx : a.eval x = vx) (hR : RowR w vx z) (hl : r.length + z.length ≤ 1000000000) (hB : B ≤ w.heap.size)
    (h : ∀ v' w', RowV B w' v' (r ++ z) → Below B w w' → w.grownBy w' v.ownBlock → wpList Tryz.prog ops Q rest (a.put o.dst v') w') : wpList Tryz.prog ops Q (o :: rest) a w :=
  wpList_plain hgd fun K hK => by
    obtain ⟨v', w', h1, h2, h3⟩ := run_row t o.type ht hown hR hl hB
    unfold Oper.wp execOp
    simp only [ho, resolve, invoke, builtin, Sem.run_bind, Sem.run_pure, Result.andThen_ok, List.map_toArray, List.map_cons, List.map_nil, hs, hx, h1]
    exact hK _ _ (h v' w' h2 (Below.grown (Below.refl _ _) h3 hB (fun q hq => (World.ownsRow.lt hown q hq).1)) h3)
end
theorem RowR.len {w : World} {v : Value} {r : List Int} (h : RowR w v r) : ∃ sa cap, v = .slice sa r.length cap ∧ r.length ≤ cap := by
  obtain ⟨sa, gb, go, cap, e, hc, _⟩ := h; exact ⟨sa, cap, e, hc⟩
theorem gcd_step {a b : Int} : Int.gcd b (a.tmod b) = Int.gcd a b := by
  have h1 : (a.tmod b).natAbs = a.natAbs % b.natAbs := Int.natAbs_tmod a b
  unfold Int.gcd
  rw [h1]
  conv => rhs; rw [Nat.gcd_comm, Nat.gcd_rec]
  rw [Nat.gcd_comm]
set_option maxRecDepth 100000 in
set_option maxHeartbeats 1000000 in
theorem Gcd08_any {w : World} {a b : Int} (ha : -1000000000000000000 ≤ a ∧ a ≤ 1000000000000000000) (hb : -1000000000000000000 ≤ b ∧ b ≤ 1000000000000000000) :
    Calls Tryz.prog 152 #[.int .i64 a, .int .i64 b] w fun e w' => e = .returned (.int .i64 (Int.gcd a b)) ∧ Ext w w' := by
  obtain ⟨G, hG⟩ : ∃ G, G = Int.gcd a b := ⟨_, rfl⟩
  rw [← hG]
  go_enter Tryz.func152, Tryz.ntmps152
  go_wp2_with fail
  go_loopw [0, 1] (fun av bv wr => ∃ x y : Int, av = .int .i64 x ∧ bv = .int .i64 y ∧ Hid (Int.gcd x y = G ∧ (-1000000000000000000 ≤ x ∧ x ≤ 1000000000000000000) ∧ (-1000000000000000000 ≤ y ∧ y ≤ 1000000000000000000)) ∧ Ext w wr) (fun _ bv _ => (intOf bv).natAbs)
  case atStart => exact ⟨a, b, rfl, rfl, Lib.hid ⟨hG.symm, ha, hb⟩, Ext.refl _⟩
  case round =>
    clear ha hb hG
    obtain ⟨x, y, rfl, rfl, HI, hE⟩ := hrel
    generalize wr = X at *
    by_cases hy : y = 0
    · subst hy
      obtain ⟨h1, h2, _⟩ := HI.out
      have hgx : Int.gcd x 0 = x.natAbs := by simp [Int.gcd]
      rw [hgx] at h1
      have H1 := Lib.hid h1
      clear h1 hgx HI
      by_cases hx : x < 0
      · have hw : IntKind.i64.wrap (0 - x) = 0 - x := IntWalk.i64_in _ (by omega)
        have Hr := Lib.hid (show (0 - x : Int) = (G : Int) by have := H1.out; omega)
        clear H1
        go_wp2_with fail
        go_ret
        exact ⟨by rw [← Hr.out, Int.zero_sub]; rfl, hE⟩
      · have Hr := Lib.hid (show x = (G : Int) by have := H1.out; omega)
        clear H1
        go_wp2_with fail
        go_ret
        exact ⟨by rw [← Hr.out]; rfl, hE⟩
    · obtain ⟨h1, h2, h3⟩ := HI.out
      obtain ⟨m, hm⟩ : ∃ m, m = x.tmod y := ⟨_, rfl⟩
      have hmb : m.natAbs < y.natAbs := by
        rw [hm, Int.natAbs_tmod]; exact Nat.mod_lt _ (by omega)
      have Hn := Lib.hid (show Int.gcd y m = G ∧ (-1000000000000000000 ≤ y ∧ y ≤ 1000000000000000000) ∧ (-1000000000000000000 ≤ m ∧ m ≤ 1000000000000000000) from ⟨by rw [hm, gcd_step]; exact h1, h3, by omega⟩)
      have hyb : (y == 0) = false := beq_eq_false_iff_ne.2 hy
      have hyb2 : (y != 0) = true := by simp [bne, hyb]
      have ht : x.tmod y = m := hm.symm
      have hw : IntKind.i64.wrap m = m := IntWalk.i64_in _ (by omega)
      clear h1 h2 h3 hm HI
      go_wp2_with fail
      go_quiet (fail)
      go_wp2_with fail
      go_roundw
      case rel => exact ⟨y, m, by go_num, by go_num, Hn, hE.drewN _⟩
      case measure => simp [intOf]; omega
set_option maxRecDepth 100000 in
set_option maxHeartbeats 1000000 in
theorem Without08_any {w : World} {v : Value} {x : List Int} {k : Nat} (hR : RowR w v x) (hk : k < x.length) (hl : x.length ≤ 1000000) :
    Calls Tryz.prog 153 #[v, .int .i64 k] w fun e w' => ∃ u, e = .returned u ∧ RowV w.heap.size w' u (x.eraseIdx k) ∧ Ext w w' := by
  obtain ⟨sa, gb, go, cap, rfl, hc, hS⟩ := hR
  obtain ⟨n, hn⟩ : ∃ n, n = x.length := ⟨_, rfl⟩
  obtain rfl := hS.addr (by rw [is_length]; omega)
  have H1 := Lib.hid (show RowR w (.slice (some ⟨gb, go, none⟩) k cap) (x.take k) from ⟨_, gb, go, cap, by rw [List.length_take]; congr 1; omega, by rw [List.length_take]; omega, by
    have := hS.take k; rwa [show (is x).take k = is (x.take k) by simp [is, List.map_take]] at this⟩)
  have H2 := Lib.hid (show RowR w (.slice (some ⟨gb, go + (k + 1), none⟩) (n - (k + 1)) (cap - (k + 1))) (x.drop (k + 1)) from ⟨_, gb, go + (k + 1), cap - (k + 1), by rw [List.length_drop, hn], by rw [List.length_drop]; omega, by
    have := (show Sl w (some ⟨gb, go + (k + 1), none⟩) gb (go + (k + 1)) ((is x).drop (k + 1)) from ⟨fun _ => rfl, fun i y hy => by rw [List.getElem?_drop] at hy; have := hS.cell _ _ hy; rwa [← Nat.add_assoc] at this⟩)
    rwa [show (is x).drop (k + 1) = is (x.drop (k + 1)) by simp [is, List.map_drop]] at this⟩)
  have hl1 : (x.take k).length = k := by rw [List.length_take]; omega
  have hl2 : (x.drop (k + 1)).length = n - (k + 1) := by rw [List.length_drop, hn]
  have He := Lib.hid (show x.take k ++ x.drop (k + 1) = x.eraseIdx k from (List.eraseIdx_eq_take_drop_succ x k).symm)
  rw [← hn] at hc hk hl ⊢
  generalize x.take k = A at *
  generalize x.drop (k + 1) = D at *
  have hkI : (k : Int) < (n : Int) := by omega
  have hkc : (k : Int) + 1 ≤ (cap : Int) := by omega
  have Hl1 := Lib.hid hl1
  have Hl2 := Lib.hid hl2
  clear hS hn hl1 hl2
  by_cases hcap : cap = k + 1
  · have hn1 : n = k + 1 := by omega
    subst hcap hn1
    have hD : D = [] := List.eq_nil_of_length_eq_zero (by have := Hl2.out; omega)
    have H3 := Lib.hid (show RowR w (.slice (some ⟨gb, go, none⟩) 0 0) D by rw [hD]; exact ⟨_, gb, go, 0, rfl, Nat.le_refl _, Sl.nil _ _ _ _⟩)
    clear hD
    go_enter Tryz.func153, Tryz.ntmps153
    go_wp2_with (first
      | (at_builtin; refine app_rows rfl _ _ 32 Tryz.underlying32 rfl (B := w.heap.size) (v := .slice none 0 0) rfl (RowV.nil _ _) (vx := .slice (some ⟨gb, go, none⟩) k (k + 1)) (by go_simp) H1.out (by rw [Hl1.out]; simp; omega) (Nat.le_refl _) ?_; intro v1 w1 hV1 hB1 hG1; rw [List.nil_append] at hV1; have hE1 := Ext.mk' hB1; have HV1 := Lib.hid hV1; have H2' := Lib.hid (H3.out.ext hE1); obtain ⟨s1, c1, rfl, hc1⟩ := hV1.row.len; clear hV1 hB1 hG1 H1)
      | (at_builtin; refine app_rows rfl _ _ 32 Tryz.underlying32 rfl (B := w.heap.size) rfl HV1.out (vx := .slice (some ⟨gb, go, none⟩) 0 0) (by go_simp) H2'.out (by rw [Hl1.out, Hl2.out]; omega) hE1.size ?_; intro v2 w2 hV2 hB2 hG2; rw [He.out] at hV2; have hE2 := Ext.mk' (Below.trans hE1 hB2); have HV2 := Lib.hid hV2; clear hB2 hG2; obtain ⟨s2, c2, rfl, hc2⟩ := hV2.row.len; clear hV2))
    go_ret
    exact ⟨_, rfl, HV2.out, hE2⟩
  · go_enter Tryz.func153, Tryz.ntmps153
    go_wp2_with (first
      | (at_builtin; refine app_rows rfl _ _ 32 Tryz.underlying32 rfl (B := w.heap.size) (v := .slice none 0 0) rfl (RowV.nil _ _) (vx := .slice (some ⟨gb, go, none⟩) k cap) (by go_simp) H1.out (by rw [Hl1.out]; simp; omega) (Nat.le_refl _) ?_; intro v1 w1 hV1 hB1 hG1; rw [List.nil_append] at hV1; have hE1 := Ext.mk' hB1; have HV1 := Lib.hid hV1; have H2' := Lib.hid (H2.out.ext hE1); obtain ⟨s1, c1, rfl, hc1⟩ := hV1.row.len; clear hV1 hB1 hG1 H1)
      | (at_builtin; refine app_rows rfl _ _ 32 Tryz.underlying32 rfl (B := w.heap.size) rfl HV1.out (vx := .slice (some ⟨gb, go + (k + 1), none⟩) (n - (k + 1)) (cap - (k + 1))) (by go_simp) H2'.out (by rw [Hl1.out, Hl2.out]; omega) hE1.size ?_; intro v2 w2 hV2 hB2 hG2; rw [He.out] at hV2; have hE2 := Ext.mk' (Below.trans hE1 hB2); have HV2 := Lib.hid hV2; clear hB2 hG2; obtain ⟨s2, c2, rfl, hc2⟩ := hV2.row.len; clear hV2))
    go_ret
    exact ⟨_, rfl, HV2.out, hE2⟩
end Go.Proofs.YtcklioolpicmcaaGreatDoor
