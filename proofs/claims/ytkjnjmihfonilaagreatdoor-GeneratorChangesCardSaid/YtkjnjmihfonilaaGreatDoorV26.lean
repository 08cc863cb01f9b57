/- Part 26 of the proof of the claim: contracts of the functions that it reaches, and plain laws; no condition. -/
import Derived.Test.YtkjnjmihfonilaaGreatDoorV25
import Derived.Test.YtkjnjmihfonilaaGreatDoorV22
namespace Go.Proofs.YtkjnjmihfonilaaGreatDoor
open Go.RowKit Go.Sort
set_option maxRecDepth 100000 in
theorem copied_any {w : World} {s : Option Addr} {n c : Nat} {r : List Int} (hr : RowR w (.slice s n c) r) (h0 : 0 < n) (hn : n ≤ 1000000) :
    Calls Tryz.prog 66 #[.slice s n c] w fun e w' => ∃ g cap, e = .returned (slv g n cap) ∧ RowV w.heap.size w' (slv g n cap) r ∧ Ext w w' := by
  have hX := (Ext.refl w).alloc (.cells #[] 3)
  have hO : RowV w.heap.size (w.alloc (.cells #[] 3)) (slv w.heap.size 0 0) [] := own_none w 3
  have HO := Lib.hid hO
  have Hr := Lib.hid hr
  clear hO hr
  go_enter Tryz.func66, Tryz.ntmps66
  go_wp2_with (at_builtin; refine app_rowP rfl _ _ 26 Tryz.underlying26 rfl rfl HO.out rfl (Hr.out.ext hX) h0 (by simp; omega) (by simp) ?_; intro g cap w8 hO8 hB8 hG8 _)
  have hE8 : Ext w w8 := Below.trans hX hB8
  rw [List.nil_append, List.length_nil, Nat.zero_add] at hO8
  have HO8 := Lib.hid hO8
  clear hB8 hG8 hO8
  go_ret
  exact ⟨g, cap, rfl, HO8.out, hE8⟩
def OfPost (w : World) (M : Mx) (e : Ending) (w' : World) : Prop :=
  Ext w w' ∧ ((twE M ≠ 0 ∧ e = .returned (.tuple #[.agg #[.int .i64 0, .slice none 0 0, .slice none 0 0], .int .i64 (twE M)])) ∨ (twE M = 0 ∧ ∃ a b, RowR w' a (M.getD 0 []) ∧ RowR w' b (M.getD 1 []) ∧ e = .returned (.tuple #[.agg #[.int .i64 (eM M 0 0), a, b], .int .i64 0])))
theorem row_kept0 {B q size k : Nat} {w w' : World} {T' : TypeId} {v u : Value} {xs : List Value} {r : List Int} (hr : RowV B w v r) (h' : w.ownsRow q T' size u k xs) (hT : 3 ≠ T') (hg : w.grownBy w' u.ownBlock) : RowR w' v r :=
  (RowV.row (B := B) (own_kept hr h' hT hg))
set_option maxRecDepth 100000 in
set_option maxHeartbeats 8000000 in
theorem gOf_any {w : World} {P : List Int} {C M : Mx} {sp : Option Addr} {cp : Nat} {sc : Option Addr} {lc cc : Nat} {sm : Option Addr} {lm cm : Nat} (h : TmV w P C M M sp cp sc lc cc sm lm cm) (hL : Laid w) :
    Calls Tryz.prog 34 #[tmS P sp cp sc lc cc sm lm cm] w (OfPost w M) := by
  have htw := Lib.hid (fun W (hW : Ext w W) => gtwo_any (h.ext hW) (hL.ext hW))
  have hX1 := (Ext.refl w).alloc (.cells #[.slice sp P.length cp, .slice sc lc cc, .slice sm lm cm] 34)
  have hX := hX1.alloc (.cells #[.int .i64 0, .slice none 0 0, .slice none 0 0] 69)
  have x0 : ((w.alloc (.cells #[.slice sp P.length cp, .slice sc lc cc, .slice sm lm cm] 34)).alloc (.cells #[.int .i64 0, .slice none 0 0, .slice none 0 0] 69)).cell? ⟨w.heap.size, 0, none⟩ = some (.slice sp P.length cp) := by go_simp
  have x1 : ((w.alloc (.cells #[.slice sp P.length cp, .slice sc lc cc, .slice sm lm cm] 34)).alloc (.cells #[.int .i64 0, .slice none 0 0, .slice none 0 0] 69)).cell? ⟨w.heap.size, 1, none⟩ = some (.slice sc lc cc) := by go_simp
  have x2 : ((w.alloc (.cells #[.slice sp P.length cp, .slice sc lc cc, .slice sm lm cm] 34)).alloc (.cells #[.int .i64 0, .slice none 0 0, .slice none 0 0] 69)).cell? ⟨w.heap.size, 2, none⟩ = some (.slice sm lm cm) := by go_simp
  have HO := Lib.hid (show OwnV 69 w.heap.size ((w.alloc (.cells #[.slice sp P.length cp, .slice sc lc cc, .slice sm lm cm] 34)).alloc (.cells #[.int .i64 0, .slice none 0 0, .slice none 0 0] 69)) (w.heap.size + 1) 3 [.int .i64 0, .slice none 0 0, .slice none 0 0] by
    have h := own3 (w.alloc (.cells #[.slice sp P.length cp, .slice sc lc cc, .slice sm lm cm] 34)) 69 (.int .i64 0) (.slice none 0 0) (.slice none 0 0)
    rw [show (w.alloc (.cells #[.slice sp P.length cp, .slice sc lc cc, .slice sm lm cm] 34)).heap.size = w.heap.size + 1 by simp] at h
    exact h.mono (by omega))
  obtain ⟨z, hz⟩ : ∃ z, z = twE M := ⟨_, rfl⟩
  rw [← hz] at htw
  have Hz := Lib.hid hz
  clear hz
  by_cases h0 : z = 0
  · subst h0
    have Htw := Lib.hid Hz.out.symm
    have hM2 : M.length = 2 := by
      have h0 := Htw.out; unfold twE at h0
      split at h0
      · assumption
      · cases h0
    obtain ⟨psM, hIM⟩ := h.ok.kM.1
    have hp0 := h.ok.p0
    have hp4 := h.ok.p4
    obtain ⟨sm', gm, om, cm', vs, em, hmc, hvl, hSm, hrm⟩ := h.hM
    injection em with q4 q5 q6
    subst q4 q6
    rw [hM2] at q5
    subst q5
    obtain ⟨s0, g0, o0, c0, hrow0, hrc0, hS0⟩ := MatR.row hSm hvl hrm (show 0 < M.length by omega)
    obtain ⟨s1, g1, o1, c1, hrow1, hrc1, hS1⟩ := MatR.row hSm hvl hrm (show 1 < M.length by omega)
    obtain rfl := hSm.addr (by omega)
    have hr0 : M[0].length = P.length := hIM.rect _ (List.getElem_mem _)
    have hr1 : M[1].length = P.length := hIM.rect _ (List.getElem_mem _)
    obtain ⟨z, hz⟩ : ∃ z, z = eM M 0 0 := ⟨_, rfl⟩
    have Hze := Lib.hid hz
    have Hg0 := Lib.hid (show M.getD 0 [] = M[0] from getD_get _ _)
    have Hg1 := Lib.hid (show M.getD 1 [] = M[1] from getD_get _ _)
    have hcz : w.cell? ⟨g0, o0, none⟩ = some (.int .i64 z) := by
      have := hS0.cell 0 (.int .i64 z) (by
        rw [hz]; unfold eM
        rw [getD_get (show 0 < M.length by omega), getD_get (show 0 < M[0].length by omega)]
        exact is_get (by omega))
      simpa using this
    obtain rfl := hS0.addr (by simp; omega)
    obtain rfl := hS1.addr (by simp; omega)
    have HR0 := Lib.hid (show RowR w (.slice (some ⟨g0, o0, none⟩) P.length c0) M[0] from ⟨_, _, _, _, by rw [hr0], hrc0, hS0⟩)
    have HR1 := Lib.hid (show RowR w (.slice (some ⟨g1, o1, none⟩) P.length c1) M[1] from ⟨_, _, _, _, by rw [hr1], hrc1, hS1⟩)
    rw [hr0] at hrow0
    rw [hr1] at hrow1
    rw [Nat.add_zero] at hrow0
    have hrow0 := hX.cell hrow0
    have hrow1 := hX.cell hrow1
    have hcz := hX.cell hcz
    have hpI : (0 : Int) < (P.length : Int) := by omega
    have hszw : w.heap.size < w.heap.size + 1 := by omega
    clear hr0 hr1 hIM hSm hrm hvl hS0 hS1 hmc hrc0 hrc1 hz Hz h hL
    go_enter Tryz.func34, Tryz.ntmps34
    go_wp2_with fail
    refine (htw.out _ hX).mono ?_
    generalize (w.alloc (.cells #[.slice sp P.length cp, .slice sc lc cc, .slice (some ⟨gm, om, none⟩) 2 cm] 34)).alloc (.cells #[.int .i64 0, .slice none 0 0, .slice none 0 0] 69) = V at *
    rintro e X ⟨rfl, hE1⟩
    have y2 := hE1.cell x2
    have yr0 := hE1.cell hrow0
    have yr1 := hE1.cell hrow1
    have yz := hE1.cell hcz
    have HOX := Lib.hid (HO.out.ext hE1)
    have e1 := hX.trans hE1
    clear htw x0 x1 x2 hrow0 hrow1 hcz HO hX hX1 hE1
    have hbt2 : ∃ bt, bt = w.heap.size := ⟨_, rfl⟩
    obtain ⟨bt, hbt⟩ := hbt2
    go_wp2_with fail
    rw [← hbt] at y2 ⊢
    have hbtF : bt + 1 = w.heap.size + 1 := by omega
    have hbF : w.heap.size ≤ bt + 1 := by omega
    have HOX2 := Lib.hid (show OwnV 69 w.heap.size X (bt + 1) 3 [.int .i64 0, .slice none 0 0, .slice none 0 0] by rw [hbt]; exact HOX.out)
    clear HOX hbtF hszw
    obtain ⟨bf, hbf⟩ : ∃ bf, bf = bt + 1 := ⟨_, rfl⟩
    rw [← hbf] at HOX2 hbF ⊢
    clear hbf hbt
    have dd : Ext X X.drew := (Ext.refl X).drew
    refine wp_region_held_tail (S := fun W => Ext X W) 18 (by kernel_rfl) (by simp) ?_
    intro inv
    refine wpAnyLH_take (i := 0) (v := .pointer (some ⟨bt, 2, none⟩)) rfl (by kernel_rfl) (fun _ _ _ h => h) (.inl ⟨by rfl, fun W hW => by go_simp⟩) dd inv ?_
    intro inv
    go_simp
    refine wpAnyLH_take (i := 1) (v := .slice (some ⟨gm, om, none⟩) 2 cm) rfl (by kernel_rfl) (fun _ _ _ h => h) (.inl ⟨by rfl, fun W hW => by have z0 := hW.cell y2; go_simp⟩) dd inv ?_
    intro inv
    go_simp
    refine wpAnyLH_take (i := 2) (v := .pointer (some ⟨gm, om, none⟩)) rfl (by kernel_rfl) (fun _ _ _ h => h) (.inl ⟨by rfl, fun W hW => by go_simp⟩) dd inv ?_
    intro inv
    go_simp
    refine wpAnyLH_take (i := 3) (v := .slice (some ⟨g0, o0, none⟩) P.length c0) rfl (by kernel_rfl) (fun _ _ _ h => h) (.inl ⟨by rfl, fun W hW => by have z0 := hW.cell yr0; go_simp⟩) dd inv ?_
    intro inv
    go_simp
    refine wpAnyLH_take (i := 4) (v := .pointer (some ⟨g0, o0, none⟩)) rfl (by kernel_rfl) (fun _ _ _ h => h) (.inl ⟨by rfl, fun W hW => by go_simp⟩) dd inv ?_
    intro inv
    go_simp
    refine wpAnyLH_take (i := 5) (v := .int .i64 z) rfl (by kernel_rfl) (fun _ _ _ h => h) (.inl ⟨by rfl, fun W hW => by have z0 := hW.cell yz; go_simp⟩) dd inv ?_
    intro inv
    go_simp
    refine wpAnyLH_take (i := 6) (v := .func (.func 66) #[] #[]) rfl (by kernel_rfl) (fun _ _ _ h => h) (.inl ⟨by rfl, fun W hW => by go_simp⟩) dd inv ?_
    intro inv
    go_simp
    refine wpAnyLH_take (i := 7) (v := .pointer (some ⟨bt, 2, none⟩)) rfl (by kernel_rfl) (fun _ _ _ h => h) (.inl ⟨by rfl, fun W hW => by go_simp⟩) dd inv ?_
    intro inv
    go_simp
    refine wpAnyLH_take (i := 8) (v := .slice (some ⟨gm, om, none⟩) 2 cm) rfl (by kernel_rfl) (fun _ _ _ h => h) (.inl ⟨by rfl, fun W hW => by have z0 := hW.cell y2; go_simp⟩) dd inv ?_
    intro inv
    go_simp
    refine wpAnyLH_take (i := 9) (v := .pointer (some ⟨gm, om, none⟩)) rfl (by kernel_rfl) (fun _ _ _ h => h) (.inl ⟨by rfl, fun W hW => by go_simp⟩) dd inv ?_
    intro inv
    go_simp
    refine wpAnyLH_take (i := 10) (v := .slice (some ⟨g0, o0, none⟩) P.length c0) rfl (by kernel_rfl) (fun _ _ _ h => h) (.inl ⟨by rfl, fun W hW => by have z0 := hW.cell yr0; go_simp⟩) dd inv ?_
    intro inv
    go_simp
    refine wpAnyLH_take (i := 12) (v := .func (.func 66) #[] #[]) rfl (by kernel_rfl) (fun _ _ _ h => h) (.inl ⟨by rfl, fun W hW => by go_simp⟩) dd inv ?_
    intro inv
    go_simp
    refine wpAnyLH_take (i := 13) (v := .pointer (some ⟨bt, 2, none⟩)) rfl (by kernel_rfl) (fun _ _ _ h => h) (.inl ⟨by rfl, fun W hW => by go_simp⟩) dd inv ?_
    intro inv
    go_simp
    refine wpAnyLH_take (i := 14) (v := .slice (some ⟨gm, om, none⟩) 2 cm) rfl (by kernel_rfl) (fun _ _ _ h => h) (.inl ⟨by rfl, fun W hW => by have z0 := hW.cell y2; go_simp⟩) dd inv ?_
    intro inv
    go_simp
    refine wpAnyLH_take (i := 15) (v := .pointer (some ⟨gm, om + 1, none⟩)) rfl (by kernel_rfl) (fun _ _ _ h => h) (.inl ⟨by rfl, fun W hW => by go_simp⟩) dd inv ?_
    intro inv
    go_simp
    refine wpAnyLH_take (i := 16) (v := .slice (some ⟨g1, o1, none⟩) P.length c1) rfl (by kernel_rfl) (fun _ _ _ h => h) (.inl ⟨by rfl, fun W hW => by have z0 := hW.cell yr1; go_simp⟩) dd inv ?_
    intro inv
    go_simp
    refine wpAnyLH_one (i := 11) rfl (by kernel_rfl) (fun K0 hK0 => ?_)
    go_simp
    refine (copied_any (HR0.out.ext (e1.trans dd)) hp0 (by omega)).mono ?_
    rintro e w1 ⟨ga, ca, rfl, hra, hE1⟩
    have d1 := dd.trans hE1
    have Hra := Lib.hid hra
    refine hK0 _ _ d1 ?_
    clear hK0 hra
    refine wpAnyLH_one (i := 17) rfl (by kernel_rfl) (fun K1 hK1 => ?_)
    go_simp
    refine (copied_any (HR1.out.ext (e1.trans d1)) hp0 (by omega)).mono ?_
    rintro e w2 ⟨gb, cb, rfl, hrb, hE2⟩
    have d2 := d1.trans hE2
    have Hrb := Lib.hid hrb
    have Hra2 := Lib.hid (Hra.out.ext hE2)
    refine hK1 _ _ d2 ?_
    clear hK1 hrb Hra
    refine wpAnyLH_end (by kernel_rfl) ?_
    have e9 := e1.trans d2
    have HO9 := HOX2.out.ext d2
    obtain ⟨Hr6, He6, Hg6⟩ := set3 e9 hbF HO9 (.int .i64 z) (slv ga P.length ca) (slv gb P.length cb)
    have r0 := Hr6.cell (j := 0) (by simp)
    have r1 := Hr6.cell (j := 1) (by simp)
    have r2 := Hr6.cell (j := 2) (by simp)
    simp only [List.getElem_cons_zero, List.getElem_cons_succ] at r0 r1 r2
    have f0 := HO9.frozen 0
    have f1 := HO9.frozen 1
    have f2 := HO9.frozen 2
    have m0 := HO9.cell (j := 0) (by simp)
    have m1 := HO9.cell (j := 1) (by simp)
    have m2 := HO9.cell (j := 2) (by simp)
    simp only [List.getElem_cons_zero, List.getElem_cons_succ] at m0 m1 m2
    have Hres := Lib.hid (show OfPost w M (.returned (.tuple #[.agg #[.int .i64 z, slv ga P.length ca, slv gb P.length cb], .int .i64 0])) _ from ⟨He6, .inr ⟨Htw.out, _, _, by rw [Hg0.out]; exact row_kept0 Hra2.out HO9 (by decide) Hg6, by rw [Hg1.out]; exact row_kept0 Hrb.out HO9 (by decide) Hg6, by rw [Hze.out]⟩⟩)
    clear Hr6 He6 Hg6 HO9 Hra2 Hrb y2 yr0 yr1 yz
    go_wp2_with fail
    refine bodyPost_ret (v := .tuple #[.agg #[.int .i64 z, slv ga P.length ca, slv gb P.length cb], .int .i64 0]) (by simp [results, Tryz.results34, go_sem, r0, r1, r2]) rfl Hres.out
  · have h2 : (z == 0) = false := beq_eq_false_iff_ne.2 h0
    have h3 : (z != 0) = true := by simp [bne, h2]
    have hsz1 : w.heap.size ≤ w.heap.size + 1 := by omega
    clear h hL
    go_enter Tryz.func34, Tryz.ntmps34
    go_wp2_with fail
    refine (htw.out _ hX).mono ?_
    generalize (w.alloc (.cells #[.slice sp P.length cp, .slice sc lc cc, .slice sm lm cm] 34)).alloc (.cells #[.int .i64 0, .slice none 0 0, .slice none 0 0] 69) = V at *
    rintro e X ⟨rfl, hE1⟩
    have e1 := hX.trans hE1
    have HO9 := HO.out.ext hE1
    obtain ⟨Hr6, He6, Hg6⟩ := set3 e1 hsz1 HO9 (.int .i64 0) (.slice none 0 0) (.slice none 0 0)
    have r0 := Hr6.cell (j := 0) (by simp)
    have r1 := Hr6.cell (j := 1) (by simp)
    have r2 := Hr6.cell (j := 2) (by simp)
    simp only [List.getElem_cons_zero, List.getElem_cons_succ] at r0 r1 r2
    have f0 := HO9.frozen 0
    have f1 := HO9.frozen 1
    have f2 := HO9.frozen 2
    have m0 := HO9.cell (j := 0) (by simp)
    have m1 := HO9.cell (j := 1) (by simp)
    have m2 := HO9.cell (j := 2) (by simp)
    simp only [List.getElem_cons_zero, List.getElem_cons_succ] at m0 m1 m2
    have Hres := Lib.hid (show OfPost w M (.returned (.tuple #[.agg #[.int .i64 0, .slice none 0 0, .slice none 0 0], .int .i64 z])) _ from ⟨He6, .inl ⟨by rw [← Hz.out]; exact h0, by rw [Hz.out]⟩⟩)
    clear Hr6 He6 Hg6 HO9 HO htw x0 x1 x2 hE1 e1 hX hX1
    generalize w.heap.size + 1 = bf at *
    go_wp2_with fail
    refine bodyPost_ret (v := .tuple #[.agg #[.int .i64 0, .slice none 0 0, .slice none 0 0], .int .i64 z]) (by simp [results, Tryz.results34, go_sem, r0, r1, r2]) rfl Hres.out
end Go.Proofs.YtkjnjmihfonilaaGreatDoor
namespace Go.Proofs.YtkjnjmihfonilaaGreatDoor
open Go.RowKit Go.Sort
def fbE (n : Nat) : Mx → Int
  | [] => 0
  | x :: L => if bgE n x = 0 then fbE n L else bgE n x
theorem fbE_none {n : Nat} : ∀ {L : Mx}, (∀ j (h : j < L.length), bgE n L[j] = 0) → fbE n L = 0
  | [], _ => rfl
  | x :: L, h => by
    rw [fbE, if_pos (show bgE n x = 0 from h 0 (by simp))]
    exact fbE_none fun j hj => h (j + 1) (by simpa using hj)
theorem fbE_at {n : Nat} : ∀ {L : Mx} {i : Nat} (hi : i < L.length), (∀ j (h : j < L.length), j < i → bgE n L[j] = 0) → bgE n L[i] ≠ 0 → fbE n L = bgE n L[i]
  | x :: L, 0, hi, _, h0 => by rw [fbE, if_neg (show ¬ bgE n x = 0 from h0)]; rfl
  | x :: L, i + 1, hi, h, h0 => by
    rw [fbE, if_pos (show bgE n x = 0 from h 0 (by simp) (by omega))]
    exact fbE_at (i := i) (by simpa using hi) (fun j hj hji => h (j + 1) (by simpa using hj) (by omega)) h0
theorem fbE_zero {n : Nat} : ∀ {L : Mx}, fbE n L = 0 → ∀ j (h : j < L.length), bgE n L[j] = 0
  | [], _, j, h => by simp at h
  | x :: L, h, j, hj => by
    rw [fbE] at h
    split at h
    · rename_i h0
      match j with
      | 0 => exact h0
      | j + 1 => exact fbE_zero h j (by simpa using hj)
    · rename_i h0; exact absurd h h0
def gst (M : Mx) (L : Mx) (i : Nat) : Int := (tmpL M (L.getD i [])).getD 1 0
def mnG (M L : Mx) : Nat → Int
  | 0 => 0
  | k + 1 => min (if k = 0 then gst M L k else mnG M L k) (gst M L k)
def mxG (M L : Mx) : Nat → Int
  | 0 => 0
  | k + 1 => max (if k = 0 then gst M L k else mxG M L k) (gst M L k)
def allS (M L : Mx) : Bool := L.all fun x => smallB (tmpL M x)
theorem allS_no {M L : Mx} {i : Nat} (h : i < L.length) (h2 : smallB (tmpL M L[i]) = false) : allS M L = false := by
  unfold allS
  rw [List.all_eq_false]
  exact ⟨_, List.getElem_mem h, by rw [h2]; decide⟩
theorem allS_yes {M L : Mx} (h : ∀ i (hi : i < L.length), smallB (tmpL M L[i]) = true) : allS M L = true := by
  unfold allS
  rw [List.all_eq_true]
  intro x hx
  obtain ⟨i, hi, rfl⟩ := List.getElem_of_mem hx
  exact h i hi
def SpPost (w : World) (np : Nat) (M L : Mx) (e : Ending) (w' : World) : Prop :=
  Ext w w' ∧ e = .returned (.tuple (if twE M = 0 then (if fbE np L = 0 then (if L.length = 0 then #[.int .i64 0, .int .i64 0, .int .i64 13] else (if allS M L = true then #[.int .i64 (mnG M L L.length), .int .i64 (mxG M L L.length), .int .i64 0] else #[.int .i64 0, .int .i64 0, .int .i64 4])) else #[.int .i64 0, .int .i64 0, .int .i64 (fbE np L)]) else #[.int .i64 0, .int .i64 0, .int .i64 (twE M)]))
theorem gst_b {M L : Mx} {i : Nat} (h : smallB (tmpL M (L.getD i [])) = true) : -1000000000 ≤ gst M L i ∧ gst M L i ≤ 1000000000 := by
  unfold gst
  refine getD_bd9 (fun z hz => ?_) 1
  have := List.all_eq_true.1 h z hz
  unfold grt at this
  simp only [Bool.not_eq_true', decide_eq_false_iff_not] at this
  omega
set_option maxRecDepth 100000 in
set_option maxHeartbeats 4000000 in
theorem gSpan_any {w : World} {P : List Int} {C M : Mx} {sp : Option Addr} {cp : Nat} {sc : Option Addr} {lc cc : Nat} {sm : Option Addr} {lm cm : Nat} {sl : Option Addr} {nl cl : Nat} {L : Mx} (h : TmV w P C M M sp cp sc lc cc sm lm cm) (hl : MatR w (.slice sl nl cl) L) (hL : Laid w) (hbig : L.length ≤ 1000000) :
    Calls Tryz.prog 35 #[tmS P sp cp sc lc cc sm lm cm, .slice sl nl cl] w (SpPost w P.length M L) := by
  have htw := Lib.hid (fun W (hW : Ext w W) => gtwo_any (h.ext hW) (hL.ext hW))
  have hX := (Ext.refl w).alloc (.cells #[.slice sp P.length cp, .slice sc lc cc, .slice sm lm cm] 34)
  have x0 : (w.alloc (.cells #[.slice sp P.length cp, .slice sc lc cc, .slice sm lm cm] 34)).cell? ⟨w.heap.size, 0, none⟩ = some (.slice sp P.length cp) := by go_simp
  have x1 : (w.alloc (.cells #[.slice sp P.length cp, .slice sc lc cc, .slice sm lm cm] 34)).cell? ⟨w.heap.size, 1, none⟩ = some (.slice sc lc cc) := by go_simp
  have x2 : (w.alloc (.cells #[.slice sp P.length cp, .slice sc lc cc, .slice sm lm cm] 34)).cell? ⟨w.heap.size, 2, none⟩ = some (.slice sm lm cm) := by go_simp
  have hst := Lib.hid (fun W s c x (hW : Ext w W) (hx : RowR W (.slice s x.length c) x) => gSteps_any (h.ext hW) hx (hL.ext hW))
  have hsz := Lib.hid (fun W s c x (hW : RowR W (.slice s (List.length x) c) x) => gsized_any (m := P.length) hW)
  obtain ⟨z, hz⟩ : ∃ z, z = twE M := ⟨_, rfl⟩
  rw [← hz] at htw
  have Hz := Lib.hid hz
  obtain ⟨sl', gl, ol, cl', vs, el, hlc, hvl, hSl, hrl⟩ := hl
  injection el with q4 q5 q6
  subst q4 q6
  rw [q5]
  have HS := Lib.hid hSl
  have HV := Lib.hid hvl
  have HR := Lib.hid hrl
  clear hz h hL q5 hSl hvl hrl
  by_cases h0 : z = 0
  · subst h0
    have Htw := Lib.hid Hz.out.symm
    clear Hz
    go_enter Tryz.func35, Tryz.ntmps35
    go_wp2_with fail
    refine (htw.out _ hX).mono ?_
    rintro e X ⟨rfl, hE1⟩
    have y0 := hE1.cell x0
    have y1 := hE1.cell x1
    have y2 := hE1.cell x2
    have e1 := hX.trans hE1
    clear htw hE1 x0 x1 x2
    go_wp2_with fail
    go_loopw [4, 5, 22] (fun lv hv idx wr => ∃ i : Nat, i ≤ L.length ∧ idx = .int .i64 i ∧ lv = .int .i64 0 ∧ hv = .int .i64 0 ∧ Hid (∀ j (h : j < L.length), j < i → bgE P.length L[j] = 0) ∧ Ext X wr) (fun _ _ idx _ => L.length - (intOf idx).toNat)
    case atStart => exact ⟨0, by omega, by go_num, rfl, rfl, Lib.hid (fun j _ h => by omega), Ext.refl _⟩
    case round =>
      obtain ⟨i, hi', rfl, rfl, rfl, HK, hE⟩ := hrel
      generalize wr = Y at *
      have z0 := hE.cell y0
      have z1 := hE.cell y1
      have z2 := hE.cell y2
      by_cases hlt : i < L.length
      · have hii : (i : Int) < (L.length : Int) := by omega
        obtain rfl := HS.out.addr (by rw [HV.out]; omega)
        obtain ⟨sr, br, or, cr, hrow, hrc, hSr⟩ := MatR.row HS.out HV.out HR.out hlt
        have hrY := (e1.trans hE).cell hrow
        have hsr := Lib.hid (hsz.out Y sr cr L[i] ⟨_, _, _, _, rfl, hrc, hSr.ext (e1.trans hE)⟩)
        by_cases hb : bgE P.length L[i] = 0
        · rw [hb] at hsr
          have Hb := Lib.hid hb
          generalize L[i].length = nr at *
          clear hb
          go_wp2_with fail
          refine hsr.out.mono ?_
          rintro e W ⟨rfl, hE2⟩
          go_wp2_with fail
          go_roundw
          case rel => exact ⟨i + 1, by omega, by go_num, rfl, rfl, Lib.hid (fun j h hj => by
            by_cases e : j = i
            · subst e; exact Hb.out
            · exact HK.out j h (by omega)), hE.trans hE2⟩
          case measure => simp [intOf] <;> omega
        · have Hfb := Lib.hid (fbE_at hlt HK.out hb)
          obtain ⟨y, hy⟩ : ∃ y, y = bgE P.length L[i] := ⟨_, rfl⟩
          rw [← hy] at hsr hb Hfb
          have h2 : (y == 0) = false := beq_eq_false_iff_ne.2 hb
          have h3 : (y != 0) = true := by simp [bne, h2]
          have Hb := Lib.hid hb
          have e3 := e1.trans hE
          generalize L[i].length = nr at *
          have Hres := Lib.hid (show ∀ W, Ext w W → SpPost w P.length M L (.returned (.tuple #[.int .i64 0, .int .i64 0, .int .i64 y])) W from fun W hW => ⟨hW, by rw [if_pos Htw.out, if_neg (by rw [Hfb.out]; exact Hb.out), Hfb.out]⟩)
          clear hy hb
          go_wp2_with fail
          refine hsr.out.mono ?_
          rintro e W ⟨rfl, hE2⟩
          have e4 := e3.trans hE2
          go_wp2_with fail
          go_ret3
          exact Hres.out _ e4
      · obtain rfl : i = L.length := by omega
        have Hfb := Lib.hid (fbE_none (n := P.length) (L := L) fun j h => HK.out j h h)
        have e3 := e1.trans hE
        clear HK hi'
        by_cases hl0 : L.length = 0
        · have hlz : ((L.length : Int) == 0) = true := by simp [hl0]
          have Hl0 := Lib.hid hl0
          have Hres := Lib.hid (show ∀ W, Ext w W → SpPost w P.length M L (.returned (.tuple #[.int .i64 0, .int .i64 0, .int .i64 13])) W from fun W hW => ⟨hW, by rw [if_pos Htw.out, if_pos Hfb.out, if_pos Hl0.out]⟩)
          clear hl0
          go_wp2_with fail
          go_ret3
          exact Hres.out _ e3
        · have hlI : ¬ (L.length : Int) = 0 := by omega
          have hlz : ((L.length : Int) == 0) = false := beq_eq_false_iff_ne.2 hlI
          have Hl0 := Lib.hid hl0
          clear hl0 y0 y1 y2
          go_wp2_with fail
          go_loopw [4, 5, 40] (fun lv hv idx wr => ∃ i : Nat, i ≤ L.length ∧ idx = .int .i64 i ∧ lv = .int .i64 (mnG M L i) ∧ hv = .int .i64 (mxG M L i) ∧ Hid (∀ j (h : j < L.length), j < i → smallB (tmpL M L[j]) = true) ∧ Ext Y wr) (fun _ _ idx _ => L.length - (intOf idx).toNat)
          case atStart => exact ⟨0, by omega, by go_num, rfl, rfl, Lib.hid (fun j _ h => by omega), Ext.refl _⟩
          case round =>
            obtain ⟨i, hi', rfl, rfl, rfl, HK, hE2⟩ := hrel
            generalize wr = Z at *
            have w0 := hE2.cell z0
            have w1 := hE2.cell z1
            have w2 := hE2.cell z2
            by_cases hlt : i < L.length
            · have hii : (i : Int) < (L.length : Int) := by omega
              obtain rfl := HS.out.addr (by rw [HV.out]; omega)
              obtain ⟨sr, br, or, cr, hrow, hrc, hSr⟩ := MatR.row HS.out HV.out HR.out hlt
              have eZ := e3.trans hE2
              have hrZ := eZ.cell hrow
              have hsr := Lib.hid (hst.out Z sr cr L[i] eZ ⟨_, _, _, _, rfl, hrc, hSr.ext eZ⟩)
              have Hbz := Lib.hid (fbE_zero Hfb.out i hlt)
              generalize hnr : L[i].length = nr at *
              cases hsm : smallB (tmpL M L[i])
              · have Hno := Lib.hid (allS_no hlt hsm)
                clear hnr
                go_wp2_with fail
                refine hsr.out.mono ?_
                rintro e W ⟨hE4, (⟨k1, rfl⟩ | ⟨k1, k2, rfl⟩ | ⟨k1, k2, k3, rfl⟩ | ⟨k1, k2, k3, rfl⟩)⟩
                · exact absurd Htw.out k1
                · exact absurd Hbz.out k2
                · have e5 := eZ.trans hE4
                  have Hres := Lib.hid (show ∀ W, Ext w W → SpPost w P.length M L (.returned (.tuple #[.int .i64 0, .int .i64 0, .int .i64 4])) W from fun W hW => ⟨hW, by rw [if_pos Htw.out, if_pos Hfb.out, if_neg Hl0.out, if_neg (by rw [Hno.out]; decide)]⟩)
                  clear k1 k2 k3 hsm
                  go_wp2_with fail
                  go_ret3
                  exact Hres.out _ e5
                · rw [hsm] at k3; cases k3
              · have Hsm := Lib.hid hsm
                have hgi : L.getD i [] = L[i] := getD_get hlt _
                have hg0 : gst M L i = (tmpL M L[i]).getD 1 0 := by unfold gst; rw [hgi]
                have hgb := gst_b (M := M) (L := L) (i := i) (by rw [hgi]; exact hsm)
                have Hmn : mnG M L (i + 1) = min (if i = 0 then gst M L i else mnG M L i) (gst M L i) := rfl
                have Hmx : mxG M L (i + 1) = max (if i = 0 then gst M L i else mxG M L i) (gst M L i) := rfl
                have Hg0 := Lib.hid hg0
                clear hnr hsm hgi hg0
                go_wp2_with fail
                refine hsr.out.mono ?_
                rintro e W ⟨hE4, (⟨k1, rfl⟩ | ⟨k1, k2, rfl⟩ | ⟨k1, k2, k3, rfl⟩ | ⟨k1, k2, k3, rfl⟩)⟩
                · exact absurd Htw.out k1
                · exact absurd Hbz.out k2
                · rw [Hsm.out] at k3; cases k3
                · rw [← Hg0.out]
                  have eW := hE2.trans hE4
                  clear k1 k2 k3
                  generalize gst M L i = g at *
                  by_cases hi0 : i = 0
                  · subst hi0
                    rw [if_pos rfl] at Hmn Hmx
                    have hmn : min g g = g := by omega
                    have hmx : max g g = g := by omega
                    rw [hmn] at Hmn
                    rw [hmx] at Hmx
                    have Hmn2 := Lib.hid Hmn
                    have Hmx2 := Lib.hid Hmx
                    clear Hmn Hmx
                    go_wp2_with fail
                    go_roundw
                    case rel => exact ⟨1, by omega, by go_num, by rw [Hmn2.out], by rw [Hmx2.out], Lib.hid (fun j h hj => by
                      obtain rfl : j = 0 := by omega
                      exact Hsm.out), eW⟩
                    case measure => simp [intOf] <;> omega
                  · rw [if_neg hi0] at Hmn Hmx
                    have hi0I : ¬ (i : Int) = 0 := by omega
                    have hi0b : ((i : Int) == 0) = false := beq_eq_false_iff_ne.2 hi0I
                    have Hmn2 := Lib.hid Hmn
                    have Hmx2 := Lib.hid Hmx
                    clear Hmn Hmx hi0
                    generalize mnG M L i = m1 at *
                    generalize mxG M L i = m2 at *
                    go_wp2_with fail
                    go_roundw
                    case rel => exact ⟨i + 1, by omega, by go_num, by rw [Hmn2.out], by rw [Hmx2.out], Lib.hid (fun j h hj => by
                      by_cases e : j = i
                      · subst e; exact Hsm.out
                      · exact HK.out j h (by omega)), eW⟩
                    case measure => simp [intOf] <;> omega
            · obtain rfl : i = L.length := by omega
              have Hall := Lib.hid (allS_yes (M := M) (L := L) fun j h => HK.out j h h)
              have eF := e3.trans hE2
              have Hres := Lib.hid (show ∀ W, Ext w W → SpPost w P.length M L (.returned (.tuple #[.int .i64 (mnG M L L.length), .int .i64 (mxG M L L.length), .int .i64 0])) W from fun W hW => ⟨hW, by rw [if_pos Htw.out, if_pos Hfb.out, if_neg Hl0.out, if_pos Hall.out]⟩)
              clear HK
              go_wp2_with fail
              go_ret3
              exact Hres.out _ eF
  · have h2 : (z == 0) = false := beq_eq_false_iff_ne.2 h0
    have h3 : (z != 0) = true := by simp [bne, h2]
    have Hn0 := Lib.hid (show ¬ twE M = 0 by rw [← Hz.out]; exact h0)
    have Hres := Lib.hid (show ∀ W, Ext w W → SpPost w P.length M L (.returned (.tuple #[.int .i64 0, .int .i64 0, .int .i64 z])) W from fun W hW => ⟨hW, by rw [if_neg Hn0.out, Hz.out]⟩)
    clear h0 hst hsz HS HV HR
    go_enter Tryz.func35, Tryz.ntmps35
    go_wp2_with fail
    refine (htw.out _ hX).mono ?_
    rintro e X ⟨rfl, hE1⟩
    have e1 := hX.trans hE1
    go_wp2_with fail
    go_ret3
    exact Hres.out _ e1
end Go.Proofs.YtkjnjmihfonilaaGreatDoor
namespace Go.Proofs.YtkjnjmihfonilaaGreatDoor
open Go.RowKit Go.Sort
def lsE (n : Nat) (L : Mx) : Int := if fbE n L = 0 then (if 12 < L.length then 4 else 0) else fbE n L
set_option maxRecDepth 100000 in
set_option maxHeartbeats 4000000 in
theorem glisted_any {w : World} {P : List Int} {C M : Mx} {sp : Option Addr} {cp : Nat} {sc : Option Addr} {lc cc : Nat} {sm : Option Addr} {lm cm : Nat} {sl : Option Addr} {nl cl : Nat} {L : Mx} (h : TmV w P C M M sp cp sc lc cc sm lm cm) (hl : MatR w (.slice sl nl cl) L) (hL : Laid w) (hbig : L.length ≤ 1000000) :
    Calls Tryz.prog 63 #[tmS P sp cp sc lc cc sm lm cm, .slice sl nl cl] w fun e w' => e = .returned (.int .i64 (lsE P.length L)) ∧ Ext w w' := by
  have hck := Lib.hid (fun W (hW : Ext w W) => tCheck_any (h.ext hW) (hL.ext hW))
  rw [tmE_same] at hck
  have hX := (Ext.refl w).alloc (.cells #[.slice sp P.length cp, .slice sc lc cc, .slice sm lm cm] 34)
  have x0 : (w.alloc (.cells #[.slice sp P.length cp, .slice sc lc cc, .slice sm lm cm] 34)).cell? ⟨w.heap.size, 0, none⟩ = some (.slice sp P.length cp) := by go_simp
  have x1 : (w.alloc (.cells #[.slice sp P.length cp, .slice sc lc cc, .slice sm lm cm] 34)).cell? ⟨w.heap.size, 1, none⟩ = some (.slice sc lc cc) := by go_simp
  have x2 : (w.alloc (.cells #[.slice sp P.length cp, .slice sc lc cc, .slice sm lm cm] 34)).cell? ⟨w.heap.size, 2, none⟩ = some (.slice sm lm cm) := by go_simp
  have hsz := Lib.hid (fun W s c x (hW : RowR W (.slice s (List.length x) c) x) => gsized_any (m := P.length) hW)
  obtain ⟨sl', gl, ol, cl', vs, el, hlc, hvl, hSl, hrl⟩ := hl
  injection el with q4 q5 q6
  subst q4 q6
  rw [q5]
  have HS := Lib.hid hSl
  have HV := Lib.hid hvl
  have HR := Lib.hid hrl
  obtain ⟨q, hq⟩ : ∃ q, q = lsE P.length L := ⟨_, rfl⟩
  rw [← hq]
  have Hq := Lib.hid hq
  clear h hL q5 hSl hvl hrl hq
  go_enter Tryz.func63, Tryz.ntmps63
  go_wp2_with fail
  refine (hck.out _ hX).mono ?_
  rintro e X ⟨rfl, hE1⟩
  have y0 := hE1.cell x0
  have e1 := hX.trans hE1
  clear hck hE1 x0 x1 x2
  go_wp2_with fail
  go_loopw [16] (fun idx wr => ∃ i : Nat, i ≤ L.length ∧ idx = .int .i64 i ∧ Hid (∀ j (h : j < L.length), j < i → bgE P.length L[j] = 0) ∧ Ext X wr) (fun idx _ => L.length - (intOf idx).toNat)
  case atStart => exact ⟨0, by omega, by go_num, Lib.hid (fun j _ h => by omega), Ext.refl _⟩
  case round =>
    obtain ⟨i, hi', rfl, HK, hE⟩ := hrel
    generalize wr = Y at *
    have z0 := hE.cell y0
    by_cases hlt : i < L.length
    · have hii : (i : Int) < (L.length : Int) := by omega
      obtain rfl := HS.out.addr (by rw [HV.out]; omega)
      obtain ⟨sr, br, or, cr, hrow, hrc, hSr⟩ := MatR.row HS.out HV.out HR.out hlt
      have hrY := (e1.trans hE).cell hrow
      have hsr := Lib.hid (hsz.out Y sr cr L[i] ⟨_, _, _, _, rfl, hrc, hSr.ext (e1.trans hE)⟩)
      by_cases hb : bgE P.length L[i] = 0
      · rw [hb] at hsr
        have Hb := Lib.hid hb
        generalize L[i].length = nr at *
        clear hb
        go_wp2_with fail
        refine hsr.out.mono ?_
        rintro e W ⟨rfl, hE2⟩
        go_wp2_with fail
        go_roundw
        case rel => exact ⟨i + 1, by omega, by go_num, Lib.hid (fun j h hj => by
          by_cases e : j = i
          · subst e; exact Hb.out
          · exact HK.out j h (by omega)), hE.trans hE2⟩
        case measure => simp [intOf] <;> omega
      · have Hfb := Lib.hid (fbE_at hlt HK.out hb)
        obtain ⟨y, hy⟩ : ∃ y, y = bgE P.length L[i] := ⟨_, rfl⟩
        rw [← hy] at hsr hb Hfb
        have h2 : (y == 0) = false := beq_eq_false_iff_ne.2 hb
        have h3 : (y != 0) = true := by simp [bne, h2]
        have Hy := Lib.hid (show y = q by rw [Hq.out]; unfold lsE; rw [if_neg (by rw [Hfb.out]; exact hb), Hfb.out])
        have e3 := e1.trans hE
        generalize L[i].length = nr at *
        clear hy hb
        go_wp2_with fail
        refine hsr.out.mono ?_
        rintro e W ⟨rfl, hE2⟩
        have e4 := e3.trans hE2
        go_wp2_with fail
        go_ret
        exact ⟨ret_val (congrArg (Value.int .i64) Hy.out), e4⟩
    · obtain rfl : i = L.length := by omega
      have Hfb := Lib.hid (fbE_none (n := P.length) (L := L) fun j h => HK.out j h h)
      have e3 := e1.trans hE
      clear HK hi'
      by_cases hl0 : 12 < L.length
      · have hlI : (12 : Int) < (L.length : Int) := by omega
        have Hy := Lib.hid (show (4 : Int) = q by rw [Hq.out]; unfold lsE; rw [if_pos Hfb.out, if_pos hl0])
        clear hl0
        go_wp2_with fail
        go_ret
        exact ⟨ret_val (congrArg (Value.int .i64) Hy.out), e3⟩
      · have hlI : ¬ (12 : Int) < (L.length : Int) := by omega
        have Hy := Lib.hid (show (0 : Int) = q by rw [Hq.out]; unfold lsE; rw [if_pos Hfb.out, if_neg hl0])
        clear hl0
        go_wp2_with fail
        go_ret
        exact ⟨ret_val (congrArg (Value.int .i64) Hy.out), e3⟩
def TlPost (w : World) (np : Nat) (M L : Mx) (e : Ending) (w' : World) : Prop :=
  Ext w w' ∧ ((lsE np L ≠ 0 ∧ e = .returned (.tuple #[.slice none 0 0, .int .i64 (lsE np L)])) ∨ (lsE np L = 0 ∧ allS M L = false ∧ e = .returned (.tuple #[.slice none 0 0, .int .i64 4])) ∨ (lsE np L = 0 ∧ allS M L = true ∧ ∃ v, e = .returned (.tuple #[v, .int .i64 0]) ∧ MatO w.heap.size w' v (L.map (tmpL M))))
theorem lsE_fb {n : Nat} {L : Mx} (h : lsE n L = 0) : fbE n L = 0 ∧ L.length ≤ 12 := by
  unfold lsE at h
  split at h
  · rename_i h1
    split at h
    · cases h
    · exact ⟨h1, by omega⟩
  · rename_i h1; exact absurd h h1
set_option maxRecDepth 100000 in
set_option maxHeartbeats 4000000 in
theorem gtempered_any {w : World} {P : List Int} {C M : Mx} {sp : Option Addr} {cp : Nat} {sc : Option Addr} {lc cc : Nat} {sm : Option Addr} {lm cm : Nat} {sl : Option Addr} {nl cl : Nat} {L : Mx} (h : TmV w P C M M sp cp sc lc cc sm lm cm) (hl : MatR w (.slice sl nl cl) L) (hL : Laid w) (hbig : L.length ≤ 1000000) :
    Calls Tryz.prog 53 #[tmS P sp cp sc lc cc sm lm cm, .slice sl nl cl] w (TlPost w P.length M L) := by
  have hls := Lib.hid (fun W (hW : Ext w W) => glisted_any (h.ext hW) (hl.ext hW) (hL.ext hW) hbig)
  have hX := (Ext.refl w).alloc (.cells #[.slice sp P.length cp, .slice sc lc cc, .slice sm lm cm] 34)
  have x0 : (w.alloc (.cells #[.slice sp P.length cp, .slice sc lc cc, .slice sm lm cm] 34)).cell? ⟨w.heap.size, 0, none⟩ = some (.slice sp P.length cp) := by go_simp
  have x1 : (w.alloc (.cells #[.slice sp P.length cp, .slice sc lc cc, .slice sm lm cm] 34)).cell? ⟨w.heap.size, 1, none⟩ = some (.slice sc lc cc) := by go_simp
  have x2 : (w.alloc (.cells #[.slice sp P.length cp, .slice sc lc cc, .slice sm lm cm] 34)).cell? ⟨w.heap.size, 2, none⟩ = some (.slice sm lm cm) := by go_simp
  have hsz0 : w.heap.size ≤ (w.alloc (.cells #[.slice sp P.length cp, .slice sc lc cc, .slice sm lm cm] 34)).heap.size := by simp
  have hte := Lib.hid (fun W s c x (hW : Ext w W) (hx : RowR W (.slice s (List.length x) c) x) => Temper_any (h.ext hW) hx (hL.ext hW))
  obtain ⟨sl', gl, ol, cl', vs, el, hlc, hvl, hSl, hrl⟩ := hl
  injection el with q4 q5 q6
  subst q4 q6
  rw [q5] at hls ⊢
  have HS := Lib.hid hSl
  have HV := Lib.hid hvl
  have HR := Lib.hid hrl
  clear h hL q5 hSl hvl hrl
  by_cases h0 : lsE P.length L = 0
  · rw [h0] at hls
    have Hls := Lib.hid h0
    have Hfb := Lib.hid (lsE_fb h0)
    clear h0
    go_enter Tryz.func53, Tryz.ntmps53
    go_wp2_with fail
    refine (hls.out _ hX).mono ?_
    rintro e X ⟨rfl, hE1⟩
    have y0 := hE1.cell x0
    have y1 := hE1.cell x1
    have y2 := hE1.cell x2
    have e1 := hX.trans hE1
    clear hls hE1 x0 x1 x2
    go_wp2_with fail
    go_loopw [7, 20] (fun out idx wr => ∃ i : Nat, i ≤ L.length ∧ idx = .int .i64 i ∧ Hid (MatO X.heap.size wr out ((L.take i).map (tmpL M))) ∧ Hid (∀ j (h : j < L.length), j < i → smallB (tmpL M L[j]) = true) ∧ Ext X wr) (fun _ idx _ => L.length - (intOf idx).toNat)
    case atStart => exact ⟨0, by omega, by go_num, Lib.hid (MatO.nil _ _), Lib.hid (fun j _ h => by omega), Ext.refl _⟩
    case round =>
      obtain ⟨i, hi', rfl, HM, HK, hE2⟩ := hrel
      generalize wr = Z at *
      have w0 := hE2.cell y0
      have w1 := hE2.cell y1
      have w2 := hE2.cell y2
      by_cases hlt : i < L.length
      · have hii : (i : Int) < (L.length : Int) := by omega
        obtain rfl := HS.out.addr (by rw [HV.out]; omega)
        obtain ⟨sr, br, or, cr, hrow, hrc, hSr⟩ := MatR.row HS.out HV.out HR.out hlt
        have eZ := e1.trans hE2
        have hrZ := eZ.cell hrow
        have hsr := Lib.hid (hte.out Z sr cr L[i] eZ ⟨_, _, _, _, rfl, hrc, hSr.ext eZ⟩)
        have Hbz := Lib.hid (fbE_zero Hfb.out.1 i hlt)
        have Hil := Lib.hid (show ((L.take i).map (tmpL M)).length = i by simp; omega)
        have Hsn := Lib.hid (show (L.take (i + 1)).map (tmpL M) = (L.take i).map (tmpL M) ++ [tmpL M L[i]] by rw [List.take_succ_eq_append_getElem hlt, List.map_append]; rfl)
        have hZs := hE2.size
        generalize hnr : L[i].length = nr at *
        cases hsm : smallB (tmpL M L[i])
        · have Hno := Lib.hid (allS_no hlt hsm)
          clear hnr
          go_wp2_with fail
          refine hsr.out.mono ?_
          rintro e W ⟨hE4, (⟨k1, k2, _⟩ | ⟨k1, k2, rfl⟩ | ⟨k1, rfl⟩)⟩
          · rw [hsm] at k2; cases k2
          · have e5 := eZ.trans hE4
            have Hres := Lib.hid (show ∀ W, Ext w W → TlPost w P.length M L (.returned (.tuple #[.slice none 0 0, .int .i64 4])) W from fun W hW => ⟨hW, .inr (.inl ⟨Hls.out, Hno.out, rfl⟩)⟩)
            clear k1 k2 hsm
            go_wp2_with fail
            go_ret2
            exact Hres.out _ e5
          · exact absurd Hbz.out k1
        · have Hsm := Lib.hid hsm
          clear hnr hsm
          go_wp2_with fail
          refine hsr.out.mono ?_
          rintro e W ⟨hE4, (⟨k1, k2, v, rfl, hv⟩ | ⟨k1, k2, rfl⟩ | ⟨k1, rfl⟩)⟩
          · obtain ⟨va, vl, vc, rfl⟩ := RowV.slice hv
            have Hv := Lib.hid (hv.mono hZs)
            have HMW := Lib.hid (HM.out.ext hE4)
            have hEW := hE2.trans hE4
            have hWs := hEW.size
            clear hv k1 k2
            go_wp2_with (at_builtin; refine app_mat rfl _ _ rfl (B := X.heap.size) rfl (HMW.out.ext ((Ext.refl _).alloc _)) rfl (b := W.heap.size) (rv := .slice va vl vc) (r := tmpL M L[i]) (by go_simp) (Hv.out.ext ((Ext.refl _).alloc _)) (by rw [Hil.out]; omega) (by simp; omega) ?_; intro gg cap2 w8 hO8 hB8 hG8; rw [Hil.out, ← Hsn.out] at hO8; rw [Hil.out])
            have hE8 : Ext X w8 := Below.trans (hEW.alloc _) hB8
            have HO8 := Lib.hid hO8
            clear hG8 hB8 hO8
            go_wp2_with fail
            go_roundw
            case rel => exact ⟨i + 1, by omega, by go_num, HO8, Lib.hid (fun j h hj => by
              by_cases e : j = i
              · subst e; exact Hsm.out
              · exact HK.out j h (by omega)), hE8⟩
            case measure => simp [intOf] <;> omega
          · rw [Hsm.out] at k2; cases k2
          · exact absurd Hbz.out k1
      · obtain rfl : i = L.length := by omega
        have Hall := Lib.hid (allS_yes (M := M) (L := L) fun j h => HK.out j h h)
        have eF := e1.trans hE2
        have HF := Lib.hid (show MatO X.heap.size Z u7 (L.map (tmpL M)) by have := HM.out; rw [List.take_length] at this; exact this)
        have hs2 := e1.size
        clear HK
        go_wp2_with fail
        go_ret2
        exact ⟨eF, .inr (.inr ⟨Hls.out, Hall.out, _, rfl, HF.out.mono hs2⟩)⟩
  · obtain ⟨y, hy⟩ : ∃ y, y = lsE P.length L := ⟨_, rfl⟩
    have Hres := Lib.hid (show ∀ W, Ext w W → TlPost w P.length M L (.returned (.tuple #[.slice none 0 0, .int .i64 y])) W from fun W hW => ⟨hW, .inl ⟨h0, by rw [hy]⟩⟩)
    rw [← hy] at hls h0
    have h2 : (y == 0) = false := beq_eq_false_iff_ne.2 h0
    have h3 : (y != 0) = true := by simp [bne, h2]
    clear hy h0 hte
    go_enter Tryz.func53, Tryz.ntmps53
    go_wp2_with fail
    refine (hls.out _ hX).mono ?_
    rintro e X ⟨rfl, hE1⟩
    have e1 := hX.trans hE1
    go_wp2_with fail
    go_ret2
    exact Hres.out _ e1
end Go.Proofs.YtkjnjmihfonilaaGreatDoor
namespace Go.Proofs.YtkjnjmihfonilaaGreatDoor
open Go.RowKit Go.Sort
set_option maxRecDepth 100000 in
set_option maxHeartbeats 4000000 in
theorem gExpress_u {w : World} {P : List Int} {C M : Mx} {sp : Option Addr} {cp : Nat} {sc : Option Addr} {lc cc : Nat} {sm : Option Addr} {lm cm : Nat} {sl : Option Addr} {nl cl : Nat} {L : Mx} {sx : Option Addr} {n cx : Nat} {x : List Int} {R : Value → Bool → Int → World → Prop} (h : TmV w P C M M sp cp sc lc cc sm lm cm) (hl : MatR w (.slice sl nl cl) L) (hx : RowR w (.slice sx n cx) x) (hL : Laid w)
    (hls0 : lsE P.length L = 0) (hb : bgE M.length x = 0) (ha : allS M L = true) (hbig : L.length ≤ 1000000)
    (hso : ∀ W v, Ext w W → MatR W v (L.map (tmpL M)) → Calls Tryz.prog 64 #[v, .slice sx n cx] W fun e w' => (∃ a f c, e = .returned (.tuple #[a, .bool f, .int .i64 c]) ∧ R a f c w') ∧ Ext W w') :
    Calls Tryz.prog 32 #[tmS P sp cp sc lc cc sm lm cm, .slice sl nl cl, .slice sx n cx] w fun e w' => (∃ a f c, e = .returned (.tuple #[a, .bool f, .int .i64 c]) ∧ R a f c w') ∧ Ext w w' := by
  have hls := Lib.hid (fun W (hW : Ext w W) => glisted_any (h.ext hW) (hl.ext hW) (hL.ext hW) hbig)
  rw [hls0] at hls
  have hml : lm = M.length := by obtain ⟨_, _, _, _, _, e, _⟩ := h.hM; injection e
  have hsz := Lib.hid (fun W (hW : Ext w W) => gsized_any (m := M.length) (hx.ext hW))
  rw [hb, ← hml] at hsz
  have htm := Lib.hid (fun W (hW : Ext w W) => gtempered_any (h.ext hW) (hl.ext hW) (hL.ext hW) hbig)
  have Hso := Lib.hid hso
  have Ha := Lib.hid ha
  have Hl0 := Lib.hid hls0
  have hX := (Ext.refl w).alloc (.cells #[.slice sp P.length cp, .slice sc lc cc, .slice sm lm cm] 34)
  have x0 : (w.alloc (.cells #[.slice sp P.length cp, .slice sc lc cc, .slice sm lm cm] 34)).cell? ⟨w.heap.size, 0, none⟩ = some (.slice sp P.length cp) := by go_simp
  have x1 : (w.alloc (.cells #[.slice sp P.length cp, .slice sc lc cc, .slice sm lm cm] 34)).cell? ⟨w.heap.size, 1, none⟩ = some (.slice sc lc cc) := by go_simp
  have x2 : (w.alloc (.cells #[.slice sp P.length cp, .slice sc lc cc, .slice sm lm cm] 34)).cell? ⟨w.heap.size, 2, none⟩ = some (.slice sm lm cm) := by go_simp
  clear h hl hx hL hls0 hb ha hso hml
  go_enter Tryz.func32, Tryz.ntmps32
  go_wp2_with fail
  refine (hls.out _ hX).mono ?_
  rintro e X ⟨rfl, hE1⟩
  have y0 := hE1.cell x0
  have y1 := hE1.cell x1
  have y2 := hE1.cell x2
  have e1 := hX.trans hE1
  clear hls hE1 x0 x1 x2
  go_wp2_with fail
  refine (hsz.out _ e1).mono ?_
  rintro e X2 ⟨rfl, hE2⟩
  have z0 := hE2.cell y0
  have z1 := hE2.cell y1
  have z2 := hE2.cell y2
  have e2 := e1.trans hE2
  clear hsz hE2 y0 y1 y2
  go_wp2_with fail
  refine (htm.out _ e2).mono ?_
  rintro e X3 ⟨hE3, (⟨k1, _⟩ | ⟨_, k1, _⟩ | ⟨_, _, v, rfl, hv⟩)⟩
  · exact absurd Hl0.out k1
  · rw [Ha.out] at k1; cases k1
  · have e3 := e2.trans hE3
    have hsv := Lib.hid (Hso.out _ _ e3 hv.mat)
    obtain ⟨va, vl, vc, rfl⟩ := hv.slice
    clear Hso hv htm hE3
    go_wp2_with fail
    refine hsv.out.mono ?_
    rintro e X4 ⟨⟨a, f, c, rfl, hR⟩, hE4⟩
    have Hp := Lib.hid (show (fun (e : Ending) (w' : World) => (∃ a f c, e = .returned (.tuple #[a, .bool f, .int .i64 c]) ∧ R a f c w') ∧ Ext w w') (.returned (.tuple #[a, .bool f, .int .i64 c])) X4 from ⟨⟨a, f, c, rfl, hR⟩, e3.trans hE4⟩)
    clear hR
    go_wp2_with fail
    go_ret3
    exact Hp.out
end Go.Proofs.YtkjnjmihfonilaaGreatDoor
