/- Part 30 of the proof of the claim: contracts of the functions that it reaches, and plain laws; no condition. -/
import Derived.Test.YtokjolmpdfmnbaaGreatDoorV29
import Derived.Test.YtokjolmpdfmnbaaGreatDoorV14
import Derived.BigQuiet
import Derived.Test.YtokjolmpdfmnbaaGreatDoorV16
import Derived.Deep.RegionHeld3
namespace Go.Proofs.YtokjolmpdfmnbaaGreatDoor
open Go.RowKit Go.Sort
theorem MatX.outer {B : Nat} {w : World} {g cap n L : Nat} {F : Mx} {ad : List (Nat × Nat)} (h : MatX B w (slv g L cap) n F ad) (hL : L = F.length) : OwnV 32 B w g cap (hdX n ad) := by
  subst hL
  unfold OwnV
  rw [hdX_length, h.len]; exact h.own
theorem MatX.ne {B : Nat} {w : World} {g cap n L : Nat} {F : Mx} {ad : List (Nat × Nat)} (h : MatX B w (slv g L cap) n F ad) {i : Nat} (hi : i < ad.length) : ad[i].1 ≠ g := fun e => by
  have hi' : i < F.length := by rw [← h.len]; exact hi
  have := own_ne (ownV_row (n := n) (h.row i hi' hi) (h.rect _ (List.getElem_mem hi'))) h.own (by decide) (g := ad[i].1) rfl
  exact this (by rw [e]; rfl)
theorem MatX.hd {B : Nat} {w : World} {g cap n L : Nat} {F : Mx} {ad : List (Nat × Nat)} (h : MatX B w (slv g L cap) n F ad) (hL : L = F.length) {i : Nat} (hi : i < ad.length) : w.cell? ⟨g, i, none⟩ = some (slv ad[i].1 n ad[i].2) := by
  have h1 := (h.outer hL).cell (j := i) (by rw [hdX_length]; exact hi)
  rw [hdX_get n hi] at h1
  exact h1
theorem MatX.setRow {B : Nat} {w w' : World} {g cap n L i : Nat} {F : Mx} {ad : List (Nat × Nat)} {r : List Int} (h : MatX B w (slv g L cap) n F ad) (hL : L = F.length) (hi : i < ad.length) (hO : OwnV 3 B w' ad[i].1 ad[i].2 (is r)) (hG : w.grownBy w' (some ad[i].1)) (hr : r.length = n) : MatX B w' (slv g L cap) n (F.set i r) ad := by
  have hout := (h.outer hL).other hG (Ne.symm (h.ne hi))
  refine ⟨by rw [List.length_set]; exact h.len, rect_set h.rect hr, ?_, fun k hk hk' => ?_, h.dis⟩
  · unfold OwnV at hout
    rw [hdX_length, h.len] at hout
    rw [List.length_set, hL]; exact hout
  · by_cases e : i = k
    · subst e
      rw [List.getElem_set_self]; exact hO
    · rw [List.getElem_set_ne e]
      refine (h.row k (by simpa using hk) hk').other hG ?_
      rcases Nat.lt_or_gt_of_ne e with hlt | hlt
      · exact Ne.symm (h.dis i k hi hk' hlt)
      · exact h.dis k i hk' hi hlt
def mixT (r s : List Int) (q : Int) (n k : Nat) : List Int := (List.range n).map fun j => if j < k then r.getD j 0 - q * s.getD j 0 else r.getD j 0
@[simp] theorem mixT_length (r s : List Int) (q : Int) (n k : Nat) : (mixT r s q n k).length = n := by simp [mixT]
def colT (M : Mx) (k n : Nat) : List Int := (List.range n).map fun r => eM M r k
def colP (M : Mx) (N k n : Nat) : List Int := (List.range N).map fun r => if r < n then eM M r k else 0
def trT (M : Mx) (N c : Nat) : Mx := (List.range c).map fun k => colT M k N
@[simp] theorem colP_length (M : Mx) (N k n : Nat) : (colP M N k n).length = N := by simp [colP]
@[simp] theorem colT_length (M : Mx) (k N : Nat) : (colT M k N).length = N := by simp [colT]
@[simp] theorem trT_length (M : Mx) (N c : Nat) : (trT M N c).length = c := by simp [trT]
theorem ncols_of {M : Mx} {c : Nat} (h : 0 < M.length) (hR : Rect c M) : ncols M = c := by
  unfold ncols; rw [getD_get h]; exact hR _ (List.getElem_mem h)
end Go.Proofs.YtokjolmpdfmnbaaGreatDoor
namespace Go.Proofs.YtokjolmpdfmnbaaGreatDoor
open Go.RowKit Go.Sort
set_option maxRecDepth 100000 in
set_option maxHeartbeats 1000000 in
theorem least0_w {w : World} {p n cap : Nat} {sa : Option Addr} (h0 : w.cell? ⟨p, 0, none⟩ = some (.slice sa n cap)) (h3 : w.cell? ⟨p, 3, none⟩ = some (.int .i64 0)) (hn : n ≤ 1000) :
    Calls Tryz.prog 110 #[.pointer (some ⟨p, 0, none⟩), .int .i64 0] w fun e w' => e = .returned (.tuple #[.int .i64 0, .int .i64 0, .bool false]) ∧ Ext w w' := by
  go_enter Tryz.func110, Tryz.ntmps110
  go_wp2_with fail
  go_loopw [4, 5, 6, 7, 8] (fun a b f iv _ wr => ∃ i : Nat, i ≤ n ∧ iv = .int .i64 i ∧ a = .int .i64 0 ∧ b = .int .i64 0 ∧ f = .bool false ∧ Hid (wr = w)) (fun _ _ _ iv _ _ => n - (intOf iv).toNat)
  case atStart => exact ⟨0, by omega, by go_num, rfl, rfl, rfl, Lib.hid rfl⟩
  case round =>
    obtain ⟨i, hi, rfl, rfl, rfl, rfl, hw⟩ := hrel
    obtain rfl := hw.out
    by_cases hlt : i < n
    · have hii : (i : Int) < (n : Int) := by omega
      go_wp2_with fail
      go_loop [4, 5, 6, 8] (fun a b f idx => a = .int .i64 0 ∧ b = .int .i64 0 ∧ f = .bool false ∧ idx = .int .i64 0) (fun _ _ _ _ => 0)
      case atStart => exact ⟨rfl, rfl, rfl, rfl⟩
      case round =>
        obtain ⟨rfl, rfl, rfl, rfl⟩ := hrel
        go_wp2_with fail
        go_roundw
        case rel => exact ⟨i + 1, by omega, by go_num, rfl, rfl, rfl, Lib.hid (by first | rfl | trivial)⟩
        case measure => simp [intOf] <;> omega
    · have hii : ¬ (i : Int) < (n : Int) := by omega
      go_wp2_with fail
      go_ret3
      exact ⟨rfl, Ext.refl _⟩
theorem grid_set {w1 w2 w4 : World} {va v : Value} {M : Mx} (h : GridR w1 va M) (he : Ext w1 w4) (hs : w1.heap.size ≤ w2.heap.size) : GridR (w4.setCell ⟨w2.heap.size, 2, none⟩ v) va M := by
  have hx : Ext w1 (w4.setCell ⟨w2.heap.size, 2, none⟩ v) := ext_trans_grown he (grown_set _ _ _ _) hs
  exact h.ext hx
def Dia0 (w : World) (M : Mx) (e : Ending) (w' : World) : Prop := ∃ p va, e = .returned (.tuple #[.pointer (some ⟨p, 0, none⟩), .int .i64 0]) ∧ w'.cell? ⟨p, 0, none⟩ = some va ∧ GridR w' va M ∧ Ext w w'
set_option maxRecDepth 100000 in
set_option maxHeartbeats 4000000 in
theorem diagonal0_any {w : World} {v : Value} {M : Mx} (hM : MatR w v M) (hR : Rect 0 M) (hn : M.length ≤ 12) (hL : Laid w) : Calls Tryz.prog 58 #[v] w (Dia0 w M) := by
  have hbig := Lib.hid (sbig_any (w := w) hM (by omega) (fun r hr => by rw [hR r hr]; omega) (fun r hr z hz => by have h1 := hR r hr; have h2 : r = [] := List.eq_nil_of_length_eq_zero h1; rw [h2] at hz; cases hz) hL)
  have hrow := fun (h0 : 0 < M.length) => (show ∃ s0 c0, v = .slice (some s0) M.length c0 ∧ ∃ sr cr, w.cell? s0 = some (.slice sr 0 cr) from by
    obtain ⟨sa, gb, go, cp, vs, rfl, hcp, hvl, hS, hr⟩ := hM
    obtain ⟨sr, br, or, cr, hrow, _, _⟩ := MatR.row hS hvl hr h0
    obtain rfl := hS.addr (by omega)
    rw [hR _ (List.getElem_mem h0)] at hrow
    exact ⟨_, _, rfl, _, _, hrow⟩)
  obtain ⟨sa, gb, go, cp, vs, rfl, hcp, hvl, hS, hr⟩ := hM
  obtain ⟨n, hnn⟩ : ∃ n, n = M.length := ⟨_, rfl⟩
  have hun := Lib.hid (fun W => sunit_any (w := W) (n := n) (by omega))
  have huc := Lib.hid (fun W => sunit_any (w := W) (n := 0) (by omega))
  rw [← hnn] at hbig hrow hn ⊢
  have Hnn := Lib.hid hnn
  clear hS hvl hr hcp hL hnn
  rcases Nat.eq_zero_or_pos n with hn0 | hn0
  · subst hn0
    go_enter Tryz.func58, Tryz.ntmps58
    go_wp2_with fail
    refine hbig.out.mono ?_
    rintro e w1 ⟨v1, ad1, rfl, hG1, hX1⟩
    go_wp2_with fail
    refine (hun.out w1).mono ?_
    rintro e w2 ⟨v2, ad2, rfl, hG2, hX2⟩
    obtain ⟨ga, ca, rfl, hca, hs1⟩ := hG1.shape
    obtain ⟨gl, cl, rfl, hcl, hs2⟩ := hG2.shape
    rw [← Hnn.out] at hca ⊢
    rw [unitM_length] at hcl ⊢
    have HG1 := Lib.hid hG1.gridR
    clear hG1 hG2 hbig hun hs1 hs2
    go_wp2_with fail
    obtain ⟨W3, hW3⟩ : ∃ W3, W3 = w2.alloc (.cells #[.slice ga 0 ca, .slice gl 0 cl, .slice none 0 0, .int .i64 0] 115) := ⟨_, rfl⟩
    have c0 : W3.cell? ⟨w2.heap.size, 0, none⟩ = some (.slice ga 0 ca) := by rw [hW3]; go_simp
    have c2 : W3.cell? ⟨w2.heap.size, 2, none⟩ = some (.slice none 0 0) := by rw [hW3]; go_simp
    have c3 : W3.cell? ⟨w2.heap.size, 3, none⟩ = some (.int .i64 0) := by rw [hW3]; go_simp
    have fz : W3.frozen? ⟨w2.heap.size, 2, none⟩ = false := by rw [hW3]; go_simp
    have hX3 : Ext w2 W3 := by rw [hW3]; exact (Ext.refl w2).alloc _
    have hs3 : w2.heap.size < W3.heap.size := by rw [hW3]; simp
    rw [← hW3]
    clear hW3
    refine (huc.out W3).mono ?_
    rintro e w4 ⟨v4, ad4, rfl, hG4, hX4⟩
    obtain ⟨gr, cr4, rfl, hcr4, hs4⟩ := hG4.shape
    rw [unitM_length] at hcr4 ⊢
    have d0 := hX4.cell c0
    have d2 := hX4.cell c2
    have d3 := hX4.cell c3
    have fz4 : w4.frozen? ⟨w2.heap.size, 2, none⟩ = false := (Ext.frozen (a := W3) (b := w4) hX4 (by exact hs3)).trans fz
    have hX14 := (hX1.trans hX2).trans (hX3.trans hX4)
    have HG5 := Lib.hid (HG1.out.ext (hX2.trans (hX3.trans hX4)))
    clear hG4 huc c0 c2 c3 fz hs4
    go_wp2_with fail
    have hsz4 := hX4.size
    have hsw1 := hX1.size
    have hsw2 := hX2.size
    have hG6 : w4.grownBy (w4.setCell ⟨w2.heap.size, 2, none⟩ (.slice gr 0 cr4)) (some w2.heap.size) := grown_set _ _ _ _
    have hX5 : Ext w (w4.setCell ⟨w2.heap.size, 2, none⟩ (.slice gr 0 cr4)) := ext_trans_grown hX14 hG6 (by omega)
    have e0 : (w4.setCell ⟨w2.heap.size, 2, none⟩ (.slice gr 0 cr4)).cell? ⟨w2.heap.size, 0, none⟩ = some (.slice ga 0 ca) := by rw [World.cell?_setCell_other (h := by simp)]; exact d0
    have e3 : (w4.setCell ⟨w2.heap.size, 2, none⟩ (.slice gr 0 cr4)).cell? ⟨w2.heap.size, 3, none⟩ = some (.int .i64 0) := by rw [World.cell?_setCell_other (h := by simp)]; exact d3
    have HX2 := Lib.hid (hX1.trans hX2)
    obtain ⟨p, hp⟩ : ∃ p, p = w2.heap.size := ⟨_, rfl⟩
    have hgX := grid_set (v := .slice gr 0 cr4) HG1.out (hX2.trans (hX3.trans hX4)) (by omega : w1.heap.size ≤ w2.heap.size)
    rw [← Hnn.out] at hgX
    have HgX := Lib.hid hgX
    clear hgX
    generalize hW5 : World.setCell w4 _ _ = W5 at *
    rw [← hp] at e0 e3 ⊢
    have hle := Lib.hid (fun W (hW : Ext W5 W) => least0_w (hW.cell e0) (hW.cell e3) (by omega))
    clear hW5 d0 d2 d3 fz4 hG6 HG1 HG5 hp
    go_wp2_with fail
    go_loop [5] (fun idx => idx = .int .i64 0) (fun _ => 0)
    case atStart => rfl
    case round =>
      obtain rfl := hrel
      go_wp2_with fail
      refine (hle.out _ (Ext.refl _)).mono ?_
      rintro e w6 ⟨rfl, hE6⟩
      have Hres := Lib.hid (show Dia0 w M (.returned (.tuple #[.pointer (some ⟨p, 0, none⟩), .int .i64 0])) w6 from ⟨p, _, rfl, hE6.cell e0, by rw [show (Value.slice ga 0 ca) = .slice ga 0 ca from rfl]; exact HgX.out.ext hE6, hX5.trans hE6⟩)
      clear e0 e3 hle
      go_wp2_with fail
      go_ret2
      exact Hres.out
  · obtain ⟨s0, k0, he, sr, cr, hrc⟩ := hrow hn0
    injection he with he1 _ he3
    subst he1 he3
    have hnI : (0 : Int) < (n : Int) := by omega
    clear hrow
    go_enter Tryz.func58, Tryz.ntmps58
    go_wp2_with fail
    refine hbig.out.mono ?_
    rintro e w1 ⟨v1, ad1, rfl, hG1, hX1⟩
    go_wp2_with fail
    refine (hun.out w1).mono ?_
    rintro e w2 ⟨v2, ad2, rfl, hG2, hX2⟩
    obtain ⟨ga, ca, rfl, hca, hs1⟩ := hG1.shape
    obtain ⟨gl, cl, rfl, hcl, hs2⟩ := hG2.shape
    rw [← Hnn.out] at hca ⊢
    rw [unitM_length] at hcl ⊢
    have HG1 := Lib.hid hG1.gridR
    have hrow1 := (hX1.trans hX2).cell hrc
    have hgb := World.block_lt_of_cell? _ _ hrow1
    clear hG1 hG2 hbig hun hs1 hs2
    go_wp2_with fail
    obtain ⟨W3, hW3⟩ : ∃ W3, W3 = w2.alloc (.cells #[.slice ga n ca, .slice gl n cl, .slice none 0 0, .int .i64 0] 115) := ⟨_, rfl⟩
    have c0 : W3.cell? ⟨w2.heap.size, 0, none⟩ = some (.slice ga n ca) := by rw [hW3]; go_simp
    have c2 : W3.cell? ⟨w2.heap.size, 2, none⟩ = some (.slice none 0 0) := by rw [hW3]; go_simp
    have c3 : W3.cell? ⟨w2.heap.size, 3, none⟩ = some (.int .i64 0) := by rw [hW3]; go_simp
    have fz : W3.frozen? ⟨w2.heap.size, 2, none⟩ = false := by rw [hW3]; go_simp
    have hX3 : Ext w2 W3 := by rw [hW3]; exact (Ext.refl w2).alloc _
    have hs3 : w2.heap.size < W3.heap.size := by rw [hW3]; simp
    rw [← hW3]
    clear hW3
    clear hrow1 hgb hrc
    refine (huc.out W3).mono ?_
    rintro e w4 ⟨v4, ad4, rfl, hG4, hX4⟩
    obtain ⟨gr, cr4, rfl, hcr4, hs4⟩ := hG4.shape
    rw [unitM_length] at hcr4 ⊢
    have d0 := hX4.cell c0
    have d2 := hX4.cell c2
    have d3 := hX4.cell c3
    have fz4 : w4.frozen? ⟨w2.heap.size, 2, none⟩ = false := (Ext.frozen (a := W3) (b := w4) hX4 (by exact hs3)).trans fz
    have hX14 := (hX1.trans hX2).trans (hX3.trans hX4)
    have HG5 := Lib.hid (HG1.out.ext (hX2.trans (hX3.trans hX4)))
    clear hG4 huc c0 c2 c3 fz hs4
    go_wp2_with fail
    have hsz4 := hX4.size
    have hsw1 := hX1.size
    have hsw2 := hX2.size
    have hG6 : w4.grownBy (w4.setCell ⟨w2.heap.size, 2, none⟩ (.slice gr 0 cr4)) (some w2.heap.size) := grown_set _ _ _ _
    have hX5 : Ext w (w4.setCell ⟨w2.heap.size, 2, none⟩ (.slice gr 0 cr4)) := ext_trans_grown hX14 hG6 (by omega)
    have e0 : (w4.setCell ⟨w2.heap.size, 2, none⟩ (.slice gr 0 cr4)).cell? ⟨w2.heap.size, 0, none⟩ = some (.slice ga n ca) := by rw [World.cell?_setCell_other (h := by simp)]; exact d0
    have e3 : (w4.setCell ⟨w2.heap.size, 2, none⟩ (.slice gr 0 cr4)).cell? ⟨w2.heap.size, 3, none⟩ = some (.int .i64 0) := by rw [World.cell?_setCell_other (h := by simp)]; exact d3
    have HX2 := Lib.hid (hX1.trans hX2)
    obtain ⟨p, hp⟩ : ∃ p, p = w2.heap.size := ⟨_, rfl⟩
    have hgX := grid_set (v := .slice gr 0 cr4) HG1.out (hX2.trans (hX3.trans hX4)) (by omega : w1.heap.size ≤ w2.heap.size)
    rw [← Hnn.out] at hgX
    have HgX := Lib.hid hgX
    clear hgX
    generalize hW5 : World.setCell w4 _ _ = W5 at *
    rw [← hp] at e0 e3 ⊢
    have hle := Lib.hid (fun W (hW : Ext W5 W) => least0_w (hW.cell e0) (hW.cell e3) (by omega))
    clear hW5 d0 d2 d3 fz4 hG6 HG1 HG5 hp
    go_wp2_with fail
    go_loop [5] (fun idx => idx = .int .i64 0) (fun _ => 0)
    case atStart => rfl
    case round =>
      obtain rfl := hrel
      go_wp2_with fail
      refine (hle.out _ (Ext.refl _)).mono ?_
      rintro e w6 ⟨rfl, hE6⟩
      have Hres := Lib.hid (show Dia0 w M (.returned (.tuple #[.pointer (some ⟨p, 0, none⟩), .int .i64 0])) w6 from ⟨p, _, rfl, hE6.cell e0, by rw [show (Value.slice ga n ca) = .slice ga n ca from rfl]; exact HgX.out.ext hE6, hX5.trans hE6⟩)
      clear e0 e3 hle
      go_wp2_with fail
      go_ret2
      exact Hres.out
end Go.Proofs.YtokjolmpdfmnbaaGreatDoor
namespace Go.Proofs.YtokjolmpdfmnbaaGreatDoor
open Go.RowKit Go.Sort
theorem run_row {w : World} {B : Nat} {v : Value} {r : List Int} (t T : TypeId) (ht : Tryz.prog.underlying t = some (.slice 3)) (hown : RowV B w v r) {vx : Value} {z : List Int} (hR : RowR w vx z) (hl : r.length + z.length ≤ 1000000000) (hB : B ≤ w.heap.size) :
    ∃ v' w', (Builtin.append_ #[t, t] T #[v, vx]).run Tryz.prog w = .ok v' w' ∧ RowV B w' v' (r ++ z) ∧ w.grownBy w' v.ownBlock := by
  obtain ⟨i0, hi, hz0, hz1, hz2⟩ := info_parts Tryz.infoInt
  obtain ⟨sa, b, c, gc, rfl, hc, hS⟩ := hR
  have hrun : ∃ v' w', (Builtin.append_ #[t, t] T #[v, .slice sa z.length gc]).run Tryz.prog w = .ok v' w' ∧ w'.ownsRow B 3 1 v' (r.length + z.length) (is r ++ is z) ∧ w.grownBy w' v.ownBlock := by
    rcases sa with _ | ad
    · have hz : z = [] := by
        rcases Nat.eq_zero_or_pos z.length with h0 | h0
        · exact List.eq_nil_of_length_eq_zero h0
        · have := hS.addr (by rw [is_length]; exact h0)
          cases this
      subst hz
      refine ⟨v, w, ?_, by have h1 := hown; unfold RowV at h1; simpa [is] using h1, World.grownBy.refl w _⟩
      rcases hown.2 with ⟨rfl, h0⟩ | ⟨g, cap, cur, rfl, _, _, hnc, _⟩
      · simp [Builtin.append_, run_underlying ht, sizeOf, typeInfo, hi, Builtin.lenOf, Builtin.firstCells]
      · simp [Builtin.append_, run_underlying ht, sizeOf, typeInfo, hi, Builtin.lenOf, Builtin.firstCells, hnc, storeCells]
    · have hcells : ∀ j u, (is z)[j]? = some u → w.cell? (ad.add j) = some u := fun j u hu => by
        have hj := (List.getElem?_eq_some_iff.1 hu).1
        obtain rfl : ad = ⟨b, c, none⟩ := Option.some.inj (hS.addr (by omega))
        rw [Lib.add_plain]; exact hS.cell j u hu
      obtain ⟨v', w', h1, h2, h3, _, _⟩ := run_append_own_at (P := Tryz.prog) w B t T 3 i0 _ 1 8 ht hi hz0 hz1 hz2 rfl (by omega) v r.length (is r) hown ad z.length gc (is z) (by rw [is_length, Nat.mul_one]) hcells (fun u hu => by obtain ⟨y, _, rfl⟩ := List.mem_map.1 hu; rfl) (by unfold maxLen; omega) (by omega) hB
      exact ⟨v', w', h1, h2, h3⟩
  obtain ⟨v', w', h1, h2, h3⟩ := hrun
  refine ⟨v', w', h1, ?_, h3⟩
  unfold RowV
  have e : is (r ++ z) = is r ++ is z := by simp [is]
  rw [e, List.length_append]; exact h2
end Go.Proofs.YtokjolmpdfmnbaaGreatDoor
namespace Go.Proofs.YtokjolmpdfmnbaaGreatDoor
open Go.RowKit Go.Sort
section
variable {w : World} {ops : Array Oper} {rest : List Oper} {o : Oper} {a : Act} {Q : Exit → Act → World → Prop}
theorem app_rows (hgd : o.guard = none) (s x : Operand) (t : TypeId) (ht : Tryz.prog.underlying t = some (.slice 3)) (ho : o.op = .call { callee := .builtin .append, args := #[s, x], argTypes := #[t, t] })
    {B : Nat} {v : Value} {r : List Int} (hs : a.eval s = v) (hown : RowV B w v r) {vx : Value} {z : List Int} (hx : a.eval x = vx) (hR : RowR w vx z) (hl : r.length + z.length ≤ 1000000000) (hB : B ≤ w.heap.size)
    (h : ∀ v' w', RowV B w' v' (r ++ z) → Below B w w' → w.grownBy w' v.ownBlock → wpList Tryz.prog ops Q rest (a.put o.dst v') w') : wpList Tryz.prog ops Q (o :: rest) a w :=
  wpList_plain hgd fun K hK => by
    obtain ⟨v', w', h1, h2, h3⟩ := run_row t o.type ht hown hR hl hB
    unfold Oper.wp execOp
    simp only [ho, resolve, invoke, builtin, Sem.run_bind, Sem.run_pure, Result.andThen_ok, List.map_toArray, List.map_cons, List.map_nil, hs, hx, h1]
    exact hK _ _ (h v' w' h2 (Below.grown (Below.refl _ _) h3 hB (fun q hq => (World.ownsRow.lt hown q hq).1)) h3)
end
theorem RowR.len {w : World} {v : Value} {r : List Int} (h : RowR w v r) : ∃ sa cap, v = .slice sa r.length cap ∧ r.length ≤ cap := by
  obtain ⟨sa, gb, go, cap, e, hc, _⟩ := h; exact ⟨sa, cap, e, hc⟩
theorem gcd_step {a b : Int} : Int.gcd b (a.tmod b) = Int.gcd a b := by
  have h1 : (a.tmod b).natAbs = a.natAbs % b.natAbs := Int.natAbs_tmod a b
  unfold Int.gcd
  rw [h1]
  conv => rhs; rw [Nat.gcd_comm, Nat.gcd_rec]
  rw [Nat.gcd_comm]
set_option maxRecDepth 100000 in
set_option maxHeartbeats 1000000 in
theorem Gcd08_any {w : World} {a b : Int} (ha : -1000000000000000000 ≤ a ∧ a ≤ 1000000000000000000) (hb : -1000000000000000000 ≤ b ∧ b ≤ 1000000000000000000) :
    Calls Tryz.prog 108 #[.int .i64 a, .int .i64 b] w fun e w' => e = .returned (.int .i64 (Int.gcd a b)) ∧ Ext w w' := by
  obtain ⟨G, hG⟩ : ∃ G, G = Int.gcd a b := ⟨_, rfl⟩
  rw [← hG]
  go_enter Tryz.func108, Tryz.ntmps108
  go_wp2_with fail
  go_loopw [0, 1] (fun av bv wr => ∃ x y : Int, av = .int .i64 x ∧ bv = .int .i64 y ∧ Hid (Int.gcd x y = G ∧ (-1000000000000000000 ≤ x ∧ x ≤ 1000000000000000000) ∧ (-1000000000000000000 ≤ y ∧ y ≤ 1000000000000000000)) ∧ Ext w wr) (fun _ bv _ => (intOf bv).natAbs)
  case atStart => exact ⟨a, b, rfl, rfl, Lib.hid ⟨hG.symm, ha, hb⟩, Ext.refl _⟩
  case round =>
    clear ha hb hG
    obtain ⟨x, y, rfl, rfl, HI, hE⟩ := hrel
    generalize wr = X at *
    by_cases hy : y = 0
    · subst hy
      obtain ⟨h1, h2, _⟩ := HI.out
      have hgx : Int.gcd x 0 = x.natAbs := by simp [Int.gcd]
      rw [hgx] at h1
      have H1 := Lib.hid h1
      clear h1 hgx HI
      by_cases hx : x < 0
      · have hw : IntKind.i64.wrap (0 - x) = 0 - x := IntWalk.i64_in _ (by omega)
        have Hr := Lib.hid (show (0 - x : Int) = (G : Int) by have := H1.out; omega)
        clear H1
        go_wp2_with fail
        go_ret
        exact ⟨by rw [← Hr.out, Int.zero_sub]; rfl, hE⟩
      · have Hr := Lib.hid (show x = (G : Int) by have := H1.out; omega)
        clear H1
        go_wp2_with fail
        go_ret
        exact ⟨by rw [← Hr.out]; rfl, hE⟩
    · obtain ⟨h1, h2, h3⟩ := HI.out
      obtain ⟨m, hm⟩ : ∃ m, m = x.tmod y := ⟨_, rfl⟩
      have hmb : m.natAbs < y.natAbs := by
        rw [hm, Int.natAbs_tmod]; exact Nat.mod_lt _ (by omega)
      have Hn := Lib.hid (show Int.gcd y m = G ∧ (-1000000000000000000 ≤ y ∧ y ≤ 1000000000000000000) ∧ (-1000000000000000000 ≤ m ∧ m ≤ 1000000000000000000) from ⟨by rw [hm, gcd_step]; exact h1, h3, by omega⟩)
      have hyb : (y == 0) = false := beq_eq_false_iff_ne.2 hy
      have hyb2 : (y != 0) = true := by simp [bne, hyb]
      have ht : x.tmod y = m := hm.symm
      have hw : IntKind.i64.wrap m = m := IntWalk.i64_in _ (by omega)
      clear h1 h2 h3 hm HI
      go_wp2_with fail
      go_quiet (fail)
      go_wp2_with fail
      go_roundw
      case rel => exact ⟨y, m, by go_num, by go_num, Hn, hE.drewN _⟩
      case measure => simp [intOf]; omega
set_option maxRecDepth 100000 in
set_option maxHeartbeats 1000000 in
theorem Without08_any {w : World} {v : Value} {x : List Int} {k : Nat} (hR : RowR w v x) (hk : k < x.length) (hl : x.length ≤ 1000000) :
    Calls Tryz.prog 121 #[v, .int .i64 k] w fun e w' => ∃ u, e = .returned u ∧ RowV w.heap.size w' u (x.eraseIdx k) ∧ Ext w w' := by
  obtain ⟨sa, gb, go, cap, rfl, hc, hS⟩ := hR
  obtain ⟨n, hn⟩ : ∃ n, n = x.length := ⟨_, rfl⟩
  obtain rfl := hS.addr (by rw [is_length]; omega)
  have H1 := Lib.hid (show RowR w (.slice (some ⟨gb, go, none⟩) k cap) (x.take k) from ⟨_, gb, go, cap, by rw [List.length_take]; congr 1; omega, by rw [List.length_take]; omega, by
    have := hS.take k; rwa [show (is x).take k = is (x.take k) by simp [is, List.map_take]] at this⟩)
  have H2 := Lib.hid (show RowR w (.slice (some ⟨gb, go + (k + 1), none⟩) (n - (k + 1)) (cap - (k + 1))) (x.drop (k + 1)) from ⟨_, gb, go + (k + 1), cap - (k + 1), by rw [List.length_drop, hn], by rw [List.length_drop]; omega, by
    have := (show Sl w (some ⟨gb, go + (k + 1), none⟩) gb (go + (k + 1)) ((is x).drop (k + 1)) from ⟨fun _ => rfl, fun i y hy => by rw [List.getElem?_drop] at hy; have := hS.cell _ _ hy; rwa [← Nat.add_assoc] at this⟩)
    rwa [show (is x).drop (k + 1) = is (x.drop (k + 1)) by simp [is, List.map_drop]] at this⟩)
  have hl1 : (x.take k).length = k := by rw [List.length_take]; omega
  have hl2 : (x.drop (k + 1)).length = n - (k + 1) := by rw [List.length_drop, hn]
  have He := Lib.hid (show x.take k ++ x.drop (k + 1) = x.eraseIdx k from (List.eraseIdx_eq_take_drop_succ x k).symm)
  rw [← hn] at hc hk hl ⊢
  generalize x.take k = A at *
  generalize x.drop (k + 1) = D at *
  have hkI : (k : Int) < (n : Int) := by omega
  have hkc : (k : Int) + 1 ≤ (cap : Int) := by omega
  have Hl1 := Lib.hid hl1
  have Hl2 := Lib.hid hl2
  clear hS hn hl1 hl2
  by_cases hcap : cap = k + 1
  · have hn1 : n = k + 1 := by omega
    subst hcap hn1
    have hD : D = [] := List.eq_nil_of_length_eq_zero (by have := Hl2.out; omega)
    have H3 := Lib.hid (show RowR w (.slice (some ⟨gb, go, none⟩) 0 0) D by rw [hD]; exact ⟨_, gb, go, 0, rfl, Nat.le_refl _, Sl.nil _ _ _ _⟩)
    clear hD
    go_enter Tryz.func121, Tryz.ntmps121
    go_wp2_with (first
      | (at_builtin; refine app_rows rfl _ _ 32 Tryz.underlying32 rfl (B := w.heap.size) (v := .slice none 0 0) rfl (RowV.nil _ _) (vx := .slice (some ⟨gb, go, none⟩) k (k + 1)) (by go_simp) H1.out (by rw [Hl1.out]; simp; omega) (Nat.le_refl _) ?_; intro v1 w1 hV1 hB1 hG1; rw [List.nil_append] at hV1; have hE1 := Ext.mk' hB1; have HV1 := Lib.hid hV1; have H2' := Lib.hid (H3.out.ext hE1); obtain ⟨s1, c1, rfl, hc1⟩ := hV1.row.len; clear hV1 hB1 hG1 H1)
      | (at_builtin; refine app_rows rfl _ _ 32 Tryz.underlying32 rfl (B := w.heap.size) rfl HV1.out (vx := .slice (some ⟨gb, go, none⟩) 0 0) (by go_simp) H2'.out (by rw [Hl1.out, Hl2.out]; omega) hE1.size ?_; intro v2 w2 hV2 hB2 hG2; rw [He.out] at hV2; have hE2 := Ext.mk' (Below.trans hE1 hB2); have HV2 := Lib.hid hV2; clear hB2 hG2; obtain ⟨s2, c2, rfl, hc2⟩ := hV2.row.len; clear hV2))
    go_ret
    exact ⟨_, rfl, HV2.out, hE2⟩
  · go_enter Tryz.func121, Tryz.ntmps121
    go_wp2_with (first
      | (at_builtin; refine app_rows rfl _ _ 32 Tryz.underlying32 rfl (B := w.heap.size) (v := .slice none 0 0) rfl (RowV.nil _ _) (vx := .slice (some ⟨gb, go, none⟩) k cap) (by go_simp) H1.out (by rw [Hl1.out]; simp; omega) (Nat.le_refl _) ?_; intro v1 w1 hV1 hB1 hG1; rw [List.nil_append] at hV1; have hE1 := Ext.mk' hB1; have HV1 := Lib.hid hV1; have H2' := Lib.hid (H2.out.ext hE1); obtain ⟨s1, c1, rfl, hc1⟩ := hV1.row.len; clear hV1 hB1 hG1 H1)
      | (at_builtin; refine app_rows rfl _ _ 32 Tryz.underlying32 rfl (B := w.heap.size) rfl HV1.out (vx := .slice (some ⟨gb, go + (k + 1), none⟩) (n - (k + 1)) (cap - (k + 1))) (by go_simp) H2'.out (by rw [Hl1.out, Hl2.out]; omega) hE1.size ?_; intro v2 w2 hV2 hB2 hG2; rw [He.out] at hV2; have hE2 := Ext.mk' (Below.trans hE1 hB2); have HV2 := Lib.hid hV2; clear hB2 hG2; obtain ⟨s2, c2, rfl, hc2⟩ := hV2.row.len; clear hV2))
    go_ret
    exact ⟨_, rfl, HV2.out, hE2⟩
end Go.Proofs.YtokjolmpdfmnbaaGreatDoor
namespace Go.Proofs.YtokjolmpdfmnbaaGreatDoor
open Go.RowKit Go.Sort
def mnr (M : Mx) (k : Nat) : Mx := (M.drop 1).map fun r => r.eraseIdx k
def sgn8 (k : Nat) : Int := if k % 2 = 0 then 1 else -1
theorem sgn8_step (k : Nat) : sgn8 (k + 1) = 0 - sgn8 k := by
  unfold sgn8
  rcases Nat.mod_two_eq_zero_or_one k with h | h
  · have h2 : (k + 1) % 2 = 1 := by omega
    rw [h, h2]; rfl
  · have h2 : (k + 1) % 2 = 0 := by omega
    rw [h, h2]; rfl
theorem sgn8_abs (k : Nat) : (sgn8 k).natAbs = 1 := by unfold sgn8; split <;> rfl
def detS (D : Mx → Int) (M : Mx) : Nat → Int
  | 0 => 0
  | j + 1 => detS D M j + sgn8 j * eM M 0 j * D (mnr M j)
def detF : Nat → Mx → Int
  | 0, _ => 1
  | k + 1, M => detS (detF k) M (k + 1)
def dB8 (B : Nat) : Nat → Nat
  | 0 => 1
  | k + 1 => (k + 1) * (B * dB8 B k)
def EntB (B : Nat) (M : Mx) : Prop := ∀ r ∈ M, ∀ z ∈ r, z.natAbs ≤ B
theorem mnr_length (M : Mx) (k : Nat) : (mnr M k).length = M.length - 1 := by simp [mnr]
theorem mnr_rect {n k : Nat} {M : Mx} (h : Rect (n + 1) M) (hk : k < n + 1) : Rect n (mnr M k) := fun r hr => by
  obtain ⟨s, hs, rfl⟩ := List.mem_map.1 hr
  have := h s (List.mem_of_mem_drop hs)
  rw [List.length_eraseIdx_of_lt (by omega)]; omega
theorem mnr_ent {B k : Nat} {M : Mx} (h : EntB B M) : EntB B (mnr M k) := fun r hr z hz => by
  obtain ⟨s, hs, rfl⟩ := List.mem_map.1 hr
  exact h s (List.mem_of_mem_drop hs) z (List.mem_of_mem_eraseIdx hz)
theorem entB_el {B : Nat} {M : Mx} (h : EntB B M) (i k : Nat) : (eM M i k).natAbs ≤ B := by
  unfold eM
  by_cases hi : i < M.length
  · rw [getD_get hi]
    by_cases hk : k < M[i].length
    · rw [getD_get hk]; exact h _ (List.getElem_mem hi) _ (List.getElem_mem hk)
    · rw [List.getD_eq_getElem?_getD, List.getElem?_eq_none (by omega)]; simp
  · rw [show M.getD i [] = [] by rw [List.getD_eq_getElem?_getD, List.getElem?_eq_none (by omega)]; rfl]; simp
theorem detS_b {B K : Nat} {D : Mx → Int} {M : Mx} (hM : EntB B M) (hD : ∀ j, (D (mnr M j)).natAbs ≤ K) : ∀ j, (detS D M j).natAbs ≤ j * (B * K)
  | 0 => by simp [detS]
  | j + 1 => by
    have ih := detS_b hM hD j
    have h1 : (sgn8 j * eM M 0 j * D (mnr M j)).natAbs ≤ B * K := by
      rw [Int.natAbs_mul, Int.natAbs_mul, sgn8_abs, Nat.one_mul]
      exact Nat.mul_le_mul (entB_el hM 0 j) (hD j)
    rw [detS, Nat.add_mul, Nat.one_mul]
    omega
theorem detF_b {B : Nat} : ∀ (n : Nat) {M : Mx}, EntB B M → (detF n M).natAbs ≤ dB8 B n
  | 0, _, _ => by simp [detF, dB8]
  | n + 1, M, h => detS_b h (fun j => detF_b n (mnr_ent h)) (n + 1)
theorem mnr_get {M : Mx} {k i : Nat} (h : i + 1 < M.length) : (mnr M k)[i]? = some ((M[i + 1]).eraseIdx k) := by
  unfold mnr
  rw [List.getElem?_map, List.getElem?_drop, Nat.add_comm 1 i, List.getElem?_eq_getElem h]; rfl
theorem mnr_take {M : Mx} {k i : Nat} (h : i + 1 < M.length) : (mnr M k).take i ++ [(M[i + 1]).eraseIdx k] = (mnr M k).take (i + 1) := by
  have h1 : i < (mnr M k).length := by rw [mnr_length]; omega
  rw [List.take_succ_eq_append_getElem h1]
  have := mnr_get (k := k) h
  rw [List.getElem?_eq_getElem h1] at this
  injection this with this
  rw [this]
set_option maxRecDepth 100000 in
set_option maxHeartbeats 4000000 in
theorem Det08_any {B : Nat} (hB0 : 1 ≤ B) : ∀ (n : Nat) (w : World) (v : Value) (M : Mx), MatR w v M → M.length = n → Rect n M → n ≤ 1000 → EntB B M → dB8 B n ≤ 1000000000000000000 →
    Calls Tryz.prog 66 #[v] w fun e w' => e = .returned (.int .i64 (detF n M)) ∧ Ext w w'
  | 0, w, v, M, hM, hl, _, _, _, _ => by
    obtain ⟨sa, gb, go, cap, vs, rfl, _, _, _, _⟩ := hM
    rw [hl]
    clear hl
    go_enter Tryz.func66, Tryz.ntmps66
    go_wp2_with fail
    go_ret
    exact ⟨rfl, Ext.refl _⟩
  | n + 1, w, v, M, hM, hl, hR, hn, hE, hb => by
    have HIH := Lib.hid (Det08_any hB0 n)
    have hdb : dB8 B n ≤ 1000000000000000000 ∧ B * dB8 B n ≤ 1000000000000000000 := by
      have h1 : dB8 B (n + 1) = (n + 1) * (B * dB8 B n) := rfl
      have h2 : B * dB8 B n ≤ (n + 1) * (B * dB8 B n) := Nat.le_mul_of_pos_left _ (by omega)
      have h3 : dB8 B n ≤ B * dB8 B n := Nat.le_mul_of_pos_left _ hB0
      omega
    have hsb : ∀ j, j ≤ n + 1 → (detS (detF n) M j).natAbs ≤ 1000000000000000000 := fun j hj => by
      have h1 := detS_b hE (fun j => detF_b n (mnr_ent (k := j) hE)) j
      have h2 : j * (B * dB8 B n) ≤ (n + 1) * (B * dB8 B n) := Nat.mul_le_mul_right _ hj
      have h3 : dB8 B (n + 1) = (n + 1) * (B * dB8 B n) := rfl
      omega
    have hBb : B ≤ 1000000000000000000 := by
      have h3 : B ≤ B * dB8 B n := Nat.le_mul_of_pos_right _ (by
        have : ∀ k, 0 < dB8 B k := fun k => by
          induction k with
          | zero => exact Nat.one_pos
          | succ k ih => exact Nat.mul_pos (by omega) (Nat.mul_pos hB0 ih)
        exact this n)
      omega
    have Hdb := Lib.hid hdb
    have Hsb := Lib.hid hsb
    have HBb := Lib.hid hBb
    have HM := Lib.hid hM
    have HE := Lib.hid hE
    have HR := Lib.hid hR
    have Hl := Lib.hid hl
    obtain ⟨sa, gb, go, cap, vs, rfl, hcap, hvl, hS, hrr⟩ := hM
    have Hrow := Lib.hid (fun i (h : i < M.length) => MatR.row hS hvl hrr h)
    obtain rfl := hS.addr (by rw [hvl]; omega)
    rw [hl] at hcap ⊢
    obtain ⟨N, hN⟩ : ∃ N, N = n + 1 := ⟨_, rfl⟩
    rw [← hN] at hcap ⊢
    have HN := Lib.hid hN
    have hN1 : ¬ (N : Int) = 0 := by omega
    have hN2 : ((N : Int) == 0) = false := beq_eq_false_iff_ne.2 hN1
    have hNb : N ≤ 1000 + 1 := by omega
    obtain ⟨DD, hDD⟩ : ∃ DD, DD = detF N M := ⟨_, rfl⟩
    rw [← hDD]
    have HDD := Lib.hid hDD
    clear hR hE hdb hsb hBb hl hvl hS hrr hN hb hDD hn
    go_enter Tryz.func66, Tryz.ntmps66
    go_wp2_with fail
    go_loopw [3, 4, 5, 6, 7] (fun sv gv kv _ _ wr => ∃ k : Nat, k ≤ N ∧ kv = .int .i64 k ∧ sv = .int .i64 (detS (detF n) M k) ∧ gv = .int .i64 (sgn8 k) ∧ Ext w wr) (fun _ _ kv _ _ _ => N - (intOf kv).toNat)
    case atStart => exact ⟨0, by omega, by go_num, rfl, rfl, Ext.refl _⟩
    case round =>
      obtain ⟨k, hk, rfl, rfl, rfl, hX⟩ := hrel
      generalize wr = X at *
      obtain ⟨s, hs⟩ : ∃ s, s = detS (detF n) M k := ⟨_, rfl⟩
      obtain ⟨g, hg⟩ : ∃ g, g = sgn8 k := ⟨_, rfl⟩
      rw [← hs, ← hg]
      have Hs := Lib.hid hs
      have Hg := Lib.hid hg
      by_cases hlt : k < N
      · have hki : (k : Int) < (N : Int) := by omega
        have hXs := hX.size
        clear hs hg
        go_wp2_with fail
        go_loopw [6, 7] (fun rv iv wr => ∃ i : Nat, 1 ≤ i ∧ i ≤ N ∧ iv = .int .i64 i ∧ Hid (MatO X.heap.size wr rv ((mnr M k).take (i - 1))) ∧ Ext X wr) (fun _ iv _ => N - (intOf iv).toNat)
        case atStart => exact ⟨1, by omega, by omega, by go_num, Lib.hid (MatO.nil _ _), Ext.refl _⟩
        case round =>
          obtain ⟨i, hi0, hi, rfl, hO, hY⟩ := hrel
          generalize wr = Y at *
          by_cases hlt2 : i < N
          · have hii : (i : Int) < (N : Int) := by omega
            have hiM : i < M.length := by rw [Hl.out, ← HN.out]; exact hlt2
            obtain ⟨sr, br, or, cr, hrow, hrc, hSr⟩ := Hrow.out i hiM
            have hwY := hX.trans hY
            have hrY := hwY.cell hrow
            have hrl : M[i].length = N := by rw [HN.out]; exact HR.out _ (List.getElem_mem hiM)
            have Hw := Lib.hid (Without08_any (w := Y) (v := .slice sr M[i].length cr) (x := M[i]) (k := k) ⟨sr, br, or, cr, rfl, hrc, hSr.ext hwY⟩ (by rw [hrl]; exact hlt) (by omega))
            rw [hrl] at Hw hrY
            have Htk := Lib.hid (show (mnr M k).take (i - 1) ++ [M[i].eraseIdx k] = (mnr M k).take (i + 1 - 1) by
              obtain ⟨i', rfl⟩ : ∃ i', i = i' + 1 := ⟨i - 1, by omega⟩
              exact mnr_take hiM)
            have Hlen := Lib.hid (show ((mnr M k).take (i - 1)).length = i - 1 by rw [List.length_take, mnr_length, Hl.out, ← HN.out]; omega)
            clear hrow hrc hSr hrl
            go_wp2_with fail
            refine Hw.out.mono ?_
            rintro e w1 ⟨u, rfl, hu, hE1⟩
            have hY1 := hY.trans hE1
            have Hu := Lib.hid (hu.mono hY.size)
            have HO1 := Lib.hid (hO.out.ext hE1)
            obtain ⟨su, cu, rfl, _⟩ := hu.row.len
            have hs1 := hY1.size
            generalize M[i].eraseIdx k = er at *
            generalize (mnr M k).take (i - 1) = F at *
            clear hu hE1 Hw hO
            go_wp2_with (at_builtin; refine app_mat rfl _ _ rfl rfl (HO1.out.ext ((Ext.refl _).alloc _)) rfl (b := w1.heap.size) (by go_simp) (Hu.out.ext ((Ext.refl _).alloc _)) (by rw [Hlen.out]; omega) (by simp; omega) ?_; intro gg cap2 w8 hO8 hB8 hG8; rw [Htk.out] at hO8; rw [Hlen.out])
            have hE8 : Ext X w8 := Below.trans (hY1.alloc (.cells #[.slice su er.length cu] 32)) hB8
            have HO8 := Lib.hid (show MatO X.heap.size w8 (slv gg i cap2) ((mnr M k).take (i + 1 - 1)) by rw [Hlen.out, show i - 1 + 1 = i by omega] at hO8; exact hO8)
            clear hO8 hB8 hG8
            go_wp2_with fail
            go_roundw
            case rel => exact ⟨i + 1, by omega, by omega, by go_num, HO8, hE8⟩
            case measure => simp [intOf] <;> omega
          · have hie : i = N := by omega
            have hii : ¬ (i : Int) < (N : Int) := by omega
            subst hie
            have hmn : (mnr M k).take (i - 1) = mnr M k := List.take_of_length_le (by rw [mnr_length, Hl.out, ← HN.out]; exact Nat.le_refl _)
            have hmat := hO.out.mat
            rw [hmn] at hmat
            obtain ⟨so, go', oo, co, vo, rfl, hco, _, _, _⟩ := id hmat
            have hwY := hX.trans hY
            have Hmat := Lib.hid hmat
            have Hdet := Lib.hid (fun W (hW : Ext Y W) => HIH.out W _ (mnr M k) (Hmat.out.ext hW) (by rw [mnr_length, Hl.out]; rfl) (mnr_rect HR.out (by rw [← HN.out]; exact hlt)) (by have := HN.out; omega) (mnr_ent HE.out) Hdb.out.1)
            obtain ⟨d, hd⟩ : ∃ d, d = detF n (mnr M k) := ⟨_, rfl⟩
            rw [← hd] at Hdet
            have hdB : d.natAbs ≤ dB8 B n := by rw [hd]; exact detF_b n (mnr_ent HE.out)
            have h0M : 0 < M.length := by rw [Hl.out]; omega
            obtain ⟨sr, br, or, cr, hrow, hrc, hSr⟩ := Hrow.out 0 h0M
            rw [Nat.add_zero] at hrow
            have hrl : M[0].length = i := by rw [HN.out]; exact HR.out _ (List.getElem_mem h0M)
            have hkr : k < M[0].length := by rw [hrl]; exact hlt
            obtain ⟨z, hz⟩ : ∃ z, z = eM M 0 k := ⟨_, rfl⟩
            have hz2 : (is M[0])[k]? = some (.int .i64 z) := by rw [is_get hkr, hz]; unfold eM; rw [getD_get h0M, getD_get hkr]
            have hcz := hSr.cell k _ hz2
            obtain rfl := hSr.addr (by rw [is_length]; omega)
            rw [hrl] at hrow hrc
            have hzB : z.natAbs ≤ B := by rw [hz]; exact entB_el HE.out 0 k
            have hgz : (g * z).natAbs ≤ B := by rw [Int.natAbs_mul, Hg.out, sgn8_abs, Nat.one_mul]; exact hzB
            have hgzd : (g * z * d).natAbs ≤ 1000000000000000000 := by
              rw [Int.natAbs_mul]
              exact Nat.le_trans (Nat.mul_le_mul hgz hdB) Hdb.out.2
            have hsum : s + g * z * d = detS (detF n) M (k + 1) := by rw [Hs.out, Hg.out, hz, hd]; rfl
            have hsb1 := Hsb.out (k + 1) (by rw [← HN.out]; exact hlt)
            have hBb := HBb.out
            rw [← hsum] at hsb1
            have w1' : IntKind.i64.wrap (g * z) = g * z := IntWalk.i64_in _ (by omega)
            have w2' : IntKind.i64.wrap (g * z * d) = g * z * d := IntWalk.i64_in _ (by omega)
            have w3' : IntKind.i64.wrap (s + g * z * d) = s + g * z * d := IntWalk.i64_in _ (by omega)
            have Hsum := Lib.hid hsum
            have hgv : g.natAbs = 1 := by rw [Hg.out]; exact sgn8_abs k
            have h0i : (0 : Int) < (i : Int) := by omega
            have h0n : 0 < i := by omega
            have Hw5 := Lib.hid (show wrap64 (-g) = 0 - g by rw [IntWalk.wrap64_in _ (by omega)]; omega)
            have s4 := (hwY.trans ((Ext.refl Y).drew)).cell hrow
            have s5 := (hwY.trans ((Ext.refl Y).drew)).cell hcz
            have dY : Ext Y Y.drew := (Ext.refl Y).drew
            have Hmnl := Lib.hid (show (mnr M k).length = n by rw [mnr_length, Hl.out]; rfl)
            rw [Hmnl.out] at Hdet ⊢
            clear hd hdB hz hz2 hSr hrc hrl hkr hzB hgz hgzd hsum hsb1 hBb hgv hmat hco hmn hO
            go_wp2_with fail
            go_region_held3 (fun w' => w'.cell? ⟨gb, go, none⟩ = some (.slice (some ⟨br, or, none⟩) i cr) ∧ w'.cell? ⟨br, or + k, none⟩ = some (.int .i64 z)) (first | exact ⟨s4, s5⟩ | exact s6 | go_keep)
              (first | (go_at_call 66; refine (Hdet.out _ dY).mono ?_; rintro e W1 ⟨rfl, hF1⟩; have d1 := dY.trans hF1; have s6 := And.intro ((hwY.trans d1).cell hrow) ((hwY.trans d1).cell hcz)))
            have hXd := hwY.trans d1
            have Hg2 := Lib.hid (show (0 - g : Int) = sgn8 (k + 1) by rw [sgn8_step, ← Hg.out])
            clear s4 s5 s6 Hdet
            go_wp2_with fail
            go_roundw
            case rel => exact ⟨k + 1, by omega, by go_num, by rw [← Hsum.out], by rw [← Hg2.out, ← Hw5.out], hXd⟩
            case measure => simp [intOf] <;> omega
      · have hke : k = N := by omega
        have hki : ¬ (k : Int) < (N : Int) := by omega
        have Hres := Lib.hid (show s = DD by rw [Hs.out, HDD.out, hke, HN.out]; rfl)
        clear hs hg hke
        go_wp2_with fail
        go_ret
        exact ⟨by rw [← Hres.out]; rfl, hX⟩
end Go.Proofs.YtokjolmpdfmnbaaGreatDoor
