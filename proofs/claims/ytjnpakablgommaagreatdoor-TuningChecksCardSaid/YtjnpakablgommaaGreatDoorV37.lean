/- Part 37 of the proof of the claim: contracts of the functions that it reaches, and plain laws; no condition. -/
import Derived.Test.YtjnpakablgommaaGreatDoorV36
import Derived.Test.YtjnpakablgommaaGreatDoorV28
set_option maxRecDepth 100000
namespace Go.Proofs.YtjnpakablgommaaGreatDoor
open Go.RowKit Go.Sort
theorem RV_m1 : RV ((-1 : Int) : Rat) = .agg #[.string ⟨#[45, 49]⟩, .string ⟨#[49]⟩] := by
 have e : (((-1 : Int)) : Rat) = (-1 : Rat) := rfl
 rw [e]
 show Value.agg #[I ((-1 : Rat)).num, I (((-1 : Rat)).den : Int)] = _
 rw [I_m1.1, I_m1.2]
set_option maxHeartbeats 8000000 in
theorem known24_any {w : World} (hL : Laid w) : Calls Tryz.prog 22 #[] w fun e w' => e = .returned (.bool true) ∧ Ext w w' := by
 have HL := Lib.hid hL
 have hw0 := Lib.hid (fun W (hW : Ext w W) => whole24_any (n := 0) (by omega) (hL.ext hW))
 have hw1 := Lib.hid (fun W (hW : Ext w W) => whole24_any (n := 1) (by omega) (hL.ext hW))
 have hwm := Lib.hid (fun W (hW : Ext w W) => whole24_any (n := -1) (by omega) (hL.ext hW))
 have hp := Lib.hid (fun W (hW : Ext w W) => part24_any (n := 1) (d := 4) (by omega) (by omega) (by omega) (hL.ext hW))
 rw [RV_zero] at hw0
 rw [RV_one] at hw1
 rw [RV_m1] at hwm
 rw [RV_four] at hp
 clear hL
 go_enter Tryz.func22, Tryz.ntmps22
 go_wp2_with fail
 refine (meantone24_any HL.out).mono ?_
 rintro e W1 ⟨t, rfl, ht, hE1⟩
 obtain ⟨sp, cp, sc, lc, cc, sm, lm, cm, sg, lg, cg, rfl, hT⟩ := ht
 have ea := (Ext.refl W1).alloc (.cells #[.slice sp mtP.length cp, .slice sc lc cc, .slice sm lm cm, .slice sg lg cg] 67)
 have e1 := hE1.trans ea
 have x0 : (W1.alloc (.cells #[.slice sp mtP.length cp, .slice sc lc cc, .slice sm lm cm, .slice sg lg cg] 67)).cell? ⟨W1.heap.size, 0, none⟩ = some (.slice sp mtP.length cp) := by go_simp
 have x1 : (W1.alloc (.cells #[.slice sp mtP.length cp, .slice sc lc cc, .slice sm lm cm, .slice sg lg cg] 67)).cell? ⟨W1.heap.size, 1, none⟩ = some (.slice sc lc cc) := by go_simp
 have x2 : (W1.alloc (.cells #[.slice sp mtP.length cp, .slice sc lc cc, .slice sm lm cm, .slice sg lg cg] 67)).cell? ⟨W1.heap.size, 2, none⟩ = some (.slice sm lm cm) := by go_simp
 have x3 : (W1.alloc (.cells #[.slice sp mtP.length cp, .slice sc lc cc, .slice sm lm cm, .slice sg lg cg] 67)).cell? ⟨W1.heap.size, 3, none⟩ = some (.slice sg lg cg) := by go_simp
 have HT := Lib.hid (hT.ext ea)
 obtain ⟨X, hXd⟩ : ∃ X, X = W1.alloc (.cells #[.slice sp mtP.length cp, .slice sc lc cc, .slice sm lm cm, .slice sg lg cg] 67) := ⟨_, rfl⟩
 rw [← hXd] at x0 x1 x2 x3 HT e1
 have eR := (Ext.refl X).alloc (.cells #[.int .i64 (-1), .int .i64 1, .int .i64 0] 3)
 have r1 : RowR (X.alloc (.cells #[.int .i64 (-1), .int .i64 1, .int .i64 0] 3)) (.slice (some ⟨X.heap.size, 0, none⟩) 3 3) [-1, 1, 0] := row3N (by go_simp) (by go_simp) (by go_simp)
 have HE1 := Lib.hid (show Calls Tryz.prog 31 #[tuS mtP sp cp sc lc cc sm lm cm sg lg cg, .slice (some ⟨X.heap.size, 0, none⟩) 3 3] (X.alloc (.cells #[.int .i64 (-1), .int .i64 1, .int .i64 0] 3)) (ErPost (X.alloc (.cells #[.int .i64 (-1), .int .i64 1, .int .i64 0] 3)) 3 mtM mtG [-1, 1, 0]) from tuError_any (HT.out.ext eR) r1 (HL.out.ext (e1.trans eR)))
 have hXs : X.heap.size = W1.heap.size + 1 := by rw [hXd]; simp
 rw [hXs] at HE1 r1
 rw [hXd] at HE1
 clear hT hE1 ea r1 hXs
 go_wp2_with fail
 refine HE1.out.mono ?_
 rw [← hXd]
 clear HE1 hXd
 rintro e Y ⟨hE2, (⟨q, _⟩ | ⟨_, q, _⟩ | ⟨_, _, g1, rfl, hO1⟩)⟩
 ·exact absurd k24_e1 q
 ·exact absurd k24_s1 q
 have e2 := eR.trans hE2
 replace x0 := e2.cell x0
 replace x1 := e2.cell x1
 replace x2 := e2.cell x2
 replace x3 := e2.cell x3
 have HT2 := Lib.hid (HT.out.ext e2)
 have e3 := e1.trans e2
 have HO1 := Lib.hid (show SzO X.heap.size Y g1 [1, -1, 1 / 4] by have := hO1.mono (B' := X.heap.size) (by simp); rw [k24_l1] at this; exact this)
 clear hE2 e2 eR hO1 HT e1
 obtain ⟨bt, hbt⟩ : ∃ b, b = W1.heap.size := ⟨_, rfl⟩
 rw [← hbt] at x0 x1 x2 x3 ⊢
 clear hbt
 have eS := (Ext.refl Y).alloc (.cells #[.int .i64 (-2), .int .i64 0, .int .i64 1] 3)
 have r2 : RowR (Y.alloc (.cells #[.int .i64 (-2), .int .i64 0, .int .i64 1] 3)) (.slice (some ⟨Y.heap.size, 0, none⟩) 3 3) [-2, 0, 1] := row3N (by go_simp) (by go_simp) (by go_simp)
 have HE2 := Lib.hid (show Calls Tryz.prog 31 #[tuS mtP sp cp sc lc cc sm lm cm sg lg cg, .slice (some ⟨Y.heap.size, 0, none⟩) 3 3] (Y.alloc (.cells #[.int .i64 (-2), .int .i64 0, .int .i64 1] 3)) (ErPost (Y.alloc (.cells #[.int .i64 (-2), .int .i64 0, .int .i64 1] 3)) 3 mtM mtG [-2, 0, 1]) from tuError_any (HT2.out.ext eS) r2 (HL.out.ext (e3.trans eS)))
 clear r2
 go_wp2_with fail
 refine HE2.out.mono ?_
 rintro e Z ⟨hE4, (⟨q, _⟩ | ⟨_, q, _⟩ | ⟨_, _, g2, rfl, hO2⟩)⟩
 ·exact absurd k24_e2 q
 ·exact absurd k24_s2 q
 have e4 := eS.trans hE4
 replace x0 := e4.cell x0
 replace x1 := e4.cell x1
 replace x2 := e4.cell x2
 replace x3 := e4.cell x3
 have HT3 := Lib.hid (HT2.out.ext e4)
 have e5 := e3.trans e4
 have HO1 := Lib.hid (HO1.out.ext e4)
 have HO2 := Lib.hid (show SzO Y.heap.size Z g2 [0, 0, 0] by have := hO2.mono (B' := Y.heap.size) (by simp); rw [k24_l2] at this; exact this)
 have HPu := Lib.hid (show Calls Tryz.prog 32 #[tuS mtP sp cp sc lc cc sm lm cm sg lg cg] Z fun e w' => e = .returned (.tuple #[.bool true, .int .i64 0]) ∧ Ext Z w' from by
  have h := tuPure_any HT3.out (HL.out.ext e5)
  have h2 : decide (tuL mtP.length mtM mtG (unitL mtP.length 0) = nbL (unitL mtP.length 0)) = true := k24_p
  rw [h2] at h; exact h)
 clear hE4 e4 eS hO2 HT2 e3 HE2
 go_wp2_with fail
 refine HPu.out.mono ?_
 rintro e Z2 ⟨rfl, hE6⟩
 replace x0 := hE6.cell x0
 replace x1 := hE6.cell x1
 replace x2 := hE6.cell x2
 replace x3 := hE6.cell x3
 have e7 := e5.trans hE6
 have HTx := Lib.hid (tuText_any (HT3.out.ext hE6) (HL.out.ext e7))
 rw [k24_t] at HTx
 clear HPu
 go_wp2_with fail
 refine HTx.out.mono ?_
 rintro e Z3 ⟨rfl, hE8⟩
 have e9 := e7.trans hE8
 have HO1 := HO1.out.ext (hE6.trans hE8)
 have HO2 := HO2.out.ext (hE6.trans hE8)
 have c00 : Z3.cell? ⟨g1, 0, none⟩ = some (.string ⟨#[49]⟩) := by have := (HO1.cells (i := 0) (by simp)).1; rw [← I_one1.1]; exact this
 have c01 : Z3.cell? ⟨g1, 1, none⟩ = some (.string ⟨#[49]⟩) := by have := (HO1.cells (i := 0) (by simp)).2; rw [← I_one1.2]; exact this
 have c10 : Z3.cell? ⟨g1, 2, none⟩ = some (.string ⟨#[45, 49]⟩) := by have := (HO1.cells (i := 1) (by simp)).1; rw [← I_m1.1]; exact this
 have c11 : Z3.cell? ⟨g1, 3, none⟩ = some (.string ⟨#[49]⟩) := by have := (HO1.cells (i := 1) (by simp)).2; rw [← I_m1.2]; exact this
 have c20 : Z3.cell? ⟨g1, 4, none⟩ = some (.string ⟨#[49]⟩) := by have := (HO1.cells (i := 2) (by simp)).1; rw [← I_four4.1]; exact this
 have c21 : Z3.cell? ⟨g1, 5, none⟩ = some (.string ⟨#[52]⟩) := by have := (HO1.cells (i := 2) (by simp)).2; rw [← I_four4.2]; exact this
 have d00 : Z3.cell? ⟨g2, 0, none⟩ = some (.string ⟨#[48]⟩) := by have := (HO2.cells (i := 0) (by simp)).1; rw [← I_zeroR.1]; exact this
 have d01 : Z3.cell? ⟨g2, 1, none⟩ = some (.string ⟨#[49]⟩) := by have := (HO2.cells (i := 0) (by simp)).2; rw [← I_zeroR.2]; exact this
 have d20 : Z3.cell? ⟨g2, 4, none⟩ = some (.string ⟨#[48]⟩) := by have := (HO2.cells (i := 2) (by simp)).1; rw [← I_zeroR.1]; exact this
 have d21 : Z3.cell? ⟨g2, 5, none⟩ = some (.string ⟨#[49]⟩) := by have := (HO2.cells (i := 2) (by simp)).2; rw [← I_zeroR.2]; exact this
 clear HTx HT3 e5 hE6 e7 hE8 HO1 HO2 x0 x1 x2 x3
 go_wp2_with fail
 have d0 : Ext Z3 Z3.drew := (Ext.refl Z3).drew
 refine wp_region_held_tail (S := fun W => Ext Z3 W) 66 (by kernel_rfl) (by simp) ?_
 intro inv
 generalize Z3.drew = Z4 at *
 refine wpAnyLH_take (i := 0) (v := .int .i64 0) rfl (by kernel_rfl) (fun _ _ _ h => h) (.inl ⟨by rfl, fun W hW => by go_simp⟩) d0 inv ?_
 intro inv
 go_simp
 refine wpAnyLH_take (i := 1) (v := .bool true) rfl (by kernel_rfl) (fun _ _ _ h => h) (.inl ⟨by rfl, fun W hW => by go_simp⟩) d0 inv ?_
 intro inv
 go_simp
 refine wpAnyLH_take (i := 2) (v := .bool true) rfl (by kernel_rfl) (fun _ _ _ h => h) (.inl ⟨by rfl, fun W hW => by go_simp⟩) d0 inv ?_
 intro inv
 go_simp
 refine wpAnyLH_take (i := 3) (v := slv g1 3 3) rfl (by kernel_rfl) (fun _ _ _ h => h) (.inl ⟨by rfl, fun W hW => by go_simp⟩) d0 inv ?_
 intro inv
 go_simp
 refine wpAnyLH_take (i := 4) (v := .int .i64 3) rfl (by kernel_rfl) (fun _ _ _ h => h) (.inl ⟨by rfl, fun W hW => by go_simp⟩) d0 inv ?_
 intro inv
 go_simp
 refine wpAnyLH_take (i := 5) (v := .bool true) rfl (by kernel_rfl) (fun _ _ _ h => h) (.inl ⟨by rfl, fun W hW => by go_simp⟩) d0 inv ?_
 intro inv
 go_simp
 refine wpAnyLH_take (i := 6) (v := .bool true) rfl (by kernel_rfl) (fun _ _ _ h => h) (.inl ⟨by rfl, fun W hW => by go_simp⟩) d0 inv ?_
 intro inv
 go_simp
 refine wpAnyLH_take (i := 7) (v := .bool true) rfl (by kernel_rfl) (fun _ _ _ h => h) (.inl ⟨by rfl, fun W hW => by go_simp⟩) d0 inv ?_
 intro inv
 go_simp
 refine wpAnyLH_take (i := 8) (v := slv g1 3 3) rfl (by kernel_rfl) (fun _ _ _ h => h) (.inl ⟨by rfl, fun W hW => by go_simp⟩) d0 inv ?_
 intro inv
 go_simp
 refine wpAnyLH_take (i := 9) (v := .pointer (some ⟨g1, 0, none⟩)) rfl (by kernel_rfl) (fun _ _ _ h => h) (.inl ⟨by rfl, fun W hW => by go_simp⟩) d0 inv ?_
 intro inv
 go_simp
 refine wpAnyLH_take (i := 10) (v := .agg #[.string ⟨#[49]⟩, .string ⟨#[49]⟩]) rfl (by kernel_rfl) (fun _ _ _ h => h) (.inl ⟨by rfl, fun W hW => by have z0 := hW.cell c00; have z1 := hW.cell c01; go_simp⟩) d0 inv ?_
 intro inv
 go_simp
 refine wpAnyLH_oneI (i := 11) rfl (by kernel_rfl) inv (fun inv K0 hK0 => ?_)
 go_simp
 refine (hw1.out _ (e9.trans d0)).mono ?_
 rintro e Y1 ⟨rfl, hF1⟩
 have d1 := d0.trans hF1
 refine hK0 _ _ d1 ?_
 clear hK0
 refine wpAnyLH_take (i := 12) (v := .bool true) rfl (by kernel_rfl) (fun _ _ _ h => h) (.inl ⟨by rfl, fun W hW => by go_simp⟩) d1 inv ?_
 intro inv
 go_simp
 refine wpAnyLH_take (i := 13) (v := .bool true) rfl (by kernel_rfl) (fun _ _ _ h => h) (.inl ⟨by rfl, fun W hW => by go_simp⟩) d1 inv ?_
 intro inv
 go_simp
 refine wpAnyLH_take (i := 14) (v := .bool true) rfl (by kernel_rfl) (fun _ _ _ h => h) (.inl ⟨by rfl, fun W hW => by go_simp⟩) d1 inv ?_
 intro inv
 go_simp
 refine wpAnyLH_take (i := 15) (v := slv g1 3 3) rfl (by kernel_rfl) (fun _ _ _ h => h) (.inl ⟨by rfl, fun W hW => by go_simp⟩) d1 inv ?_
 intro inv
 go_simp
 refine wpAnyLH_take (i := 16) (v := .pointer (some ⟨g1, 2, none⟩)) rfl (by kernel_rfl) (fun _ _ _ h => h) (.inl ⟨by rfl, fun W hW => by go_simp⟩) d1 inv ?_
 intro inv
 go_simp
 refine wpAnyLH_take (i := 17) (v := .agg #[.string ⟨#[45, 49]⟩, .string ⟨#[49]⟩]) rfl (by kernel_rfl) (fun _ _ _ h => h) (.inl ⟨by rfl, fun W hW => by have z0 := hW.cell c10; have z1 := hW.cell c11; go_simp⟩) d1 inv ?_
 intro inv
 go_simp
 refine wpAnyLH_oneI (i := 18) rfl (by kernel_rfl) inv (fun inv K0 hK0 => ?_)
 go_simp
 refine (hwm.out _ (e9.trans d1)).mono ?_
 rintro e Y2 ⟨rfl, hF2⟩
 have d2 := d1.trans hF2
 refine hK0 _ _ d2 ?_
 clear hK0
 refine wpAnyLH_take (i := 19) (v := .bool true) rfl (by kernel_rfl) (fun _ _ _ h => h) (.inl ⟨by rfl, fun W hW => by go_simp⟩) d2 inv ?_
 intro inv
 go_simp
 refine wpAnyLH_take (i := 20) (v := .bool true) rfl (by kernel_rfl) (fun _ _ _ h => h) (.inl ⟨by rfl, fun W hW => by go_simp⟩) d2 inv ?_
 intro inv
 go_simp
 refine wpAnyLH_take (i := 21) (v := .bool true) rfl (by kernel_rfl) (fun _ _ _ h => h) (.inl ⟨by rfl, fun W hW => by go_simp⟩) d2 inv ?_
 intro inv
 go_simp
 refine wpAnyLH_take (i := 22) (v := slv g1 3 3) rfl (by kernel_rfl) (fun _ _ _ h => h) (.inl ⟨by rfl, fun W hW => by go_simp⟩) d2 inv ?_
 intro inv
 go_simp
 refine wpAnyLH_take (i := 23) (v := .pointer (some ⟨g1, 4, none⟩)) rfl (by kernel_rfl) (fun _ _ _ h => h) (.inl ⟨by rfl, fun W hW => by go_simp⟩) d2 inv ?_
 intro inv
 go_simp
 refine wpAnyLH_take (i := 24) (v := .agg #[.string ⟨#[49]⟩, .string ⟨#[52]⟩]) rfl (by kernel_rfl) (fun _ _ _ h => h) (.inl ⟨by rfl, fun W hW => by have z0 := hW.cell c20; have z1 := hW.cell c21; go_simp⟩) d2 inv ?_
 intro inv
 go_simp
 refine wpAnyLH_oneI (i := 25) rfl (by kernel_rfl) inv (fun inv K0 hK0 => ?_)
 go_simp
 refine (hp.out _ (e9.trans d2)).mono ?_
 rintro e Y3 ⟨rfl, hF3⟩
 have d3 := d2.trans hF3
 refine hK0 _ _ d3 ?_
 clear hK0
 refine wpAnyLH_take (i := 26) (v := .bool true) rfl (by kernel_rfl) (fun _ _ _ h => h) (.inl ⟨by rfl, fun W hW => by go_simp⟩) d3 inv ?_
 intro inv
 go_simp
 refine wpAnyLH_take (i := 27) (v := .bool true) rfl (by kernel_rfl) (fun _ _ _ h => h) (.inl ⟨by rfl, fun W hW => by go_simp⟩) d3 inv ?_
 intro inv
 go_simp
 refine wpAnyLH_take (i := 28) (v := .bool true) rfl (by kernel_rfl) (fun _ _ _ h => h) (.inl ⟨by rfl, fun W hW => by go_simp⟩) d3 inv ?_
 intro inv
 go_simp
 refine wpAnyLH_take (i := 29) (v := .int .i64 0) rfl (by kernel_rfl) (fun _ _ _ h => h) (.inl ⟨by rfl, fun W hW => by go_simp⟩) d3 inv ?_
 intro inv
 go_simp
 refine wpAnyLH_take (i := 30) (v := .bool true) rfl (by kernel_rfl) (fun _ _ _ h => h) (.inl ⟨by rfl, fun W hW => by go_simp⟩) d3 inv ?_
 intro inv
 go_simp
 refine wpAnyLH_take (i := 31) (v := .bool true) rfl (by kernel_rfl) (fun _ _ _ h => h) (.inl ⟨by rfl, fun W hW => by go_simp⟩) d3 inv ?_
 intro inv
 go_simp
 refine wpAnyLH_take (i := 32) (v := .bool true) rfl (by kernel_rfl) (fun _ _ _ h => h) (.inl ⟨by rfl, fun W hW => by go_simp⟩) d3 inv ?_
 intro inv
 go_simp
 refine wpAnyLH_take (i := 33) (v := slv g2 3 3) rfl (by kernel_rfl) (fun _ _ _ h => h) (.inl ⟨by rfl, fun W hW => by go_simp⟩) d3 inv ?_
 intro inv
 go_simp
 refine wpAnyLH_take (i := 34) (v := .int .i64 3) rfl (by kernel_rfl) (fun _ _ _ h => h) (.inl ⟨by rfl, fun W hW => by go_simp⟩) d3 inv ?_
 intro inv
 go_simp
 refine wpAnyLH_take (i := 35) (v := .bool true) rfl (by kernel_rfl) (fun _ _ _ h => h) (.inl ⟨by rfl, fun W hW => by go_simp⟩) d3 inv ?_
 intro inv
 go_simp
 refine wpAnyLH_take (i := 36) (v := .bool true) rfl (by kernel_rfl) (fun _ _ _ h => h) (.inl ⟨by rfl, fun W hW => by go_simp⟩) d3 inv ?_
 intro inv
 go_simp
 refine wpAnyLH_take (i := 37) (v := .bool true) rfl (by kernel_rfl) (fun _ _ _ h => h) (.inl ⟨by rfl, fun W hW => by go_simp⟩) d3 inv ?_
 intro inv
 go_simp
 refine wpAnyLH_take (i := 38) (v := slv g2 3 3) rfl (by kernel_rfl) (fun _ _ _ h => h) (.inl ⟨by rfl, fun W hW => by go_simp⟩) d3 inv ?_
 intro inv
 go_simp
 refine wpAnyLH_take (i := 39) (v := .pointer (some ⟨g2, 0, none⟩)) rfl (by kernel_rfl) (fun _ _ _ h => h) (.inl ⟨by rfl, fun W hW => by go_simp⟩) d3 inv ?_
 intro inv
 go_simp
 refine wpAnyLH_take (i := 40) (v := .agg #[.string ⟨#[48]⟩, .string ⟨#[49]⟩]) rfl (by kernel_rfl) (fun _ _ _ h => h) (.inl ⟨by rfl, fun W hW => by have z0 := hW.cell d00; have z1 := hW.cell d01; go_simp⟩) d3 inv ?_
 intro inv
 go_simp
 refine wpAnyLH_oneI (i := 41) rfl (by kernel_rfl) inv (fun inv K0 hK0 => ?_)
 go_simp
 refine (hw0.out _ (e9.trans d3)).mono ?_
 rintro e Y4 ⟨rfl, hF4⟩
 have d4 := d3.trans hF4
 refine hK0 _ _ d4 ?_
 clear hK0
 refine wpAnyLH_take (i := 42) (v := .bool true) rfl (by kernel_rfl) (fun _ _ _ h => h) (.inl ⟨by rfl, fun W hW => by go_simp⟩) d4 inv ?_
 intro inv
 go_simp
 refine wpAnyLH_take (i := 43) (v := .bool true) rfl (by kernel_rfl) (fun _ _ _ h => h) (.inl ⟨by rfl, fun W hW => by go_simp⟩) d4 inv ?_
 intro inv
 go_simp
 refine wpAnyLH_take (i := 44) (v := .bool true) rfl (by kernel_rfl) (fun _ _ _ h => h) (.inl ⟨by rfl, fun W hW => by go_simp⟩) d4 inv ?_
 intro inv
 go_simp
 refine wpAnyLH_take (i := 45) (v := slv g2 3 3) rfl (by kernel_rfl) (fun _ _ _ h => h) (.inl ⟨by rfl, fun W hW => by go_simp⟩) d4 inv ?_
 intro inv
 go_simp
 refine wpAnyLH_take (i := 46) (v := .pointer (some ⟨g2, 4, none⟩)) rfl (by kernel_rfl) (fun _ _ _ h => h) (.inl ⟨by rfl, fun W hW => by go_simp⟩) d4 inv ?_
 intro inv
 go_simp
 refine wpAnyLH_take (i := 47) (v := .agg #[.string ⟨#[48]⟩, .string ⟨#[49]⟩]) rfl (by kernel_rfl) (fun _ _ _ h => h) (.inl ⟨by rfl, fun W hW => by have z0 := hW.cell d20; have z1 := hW.cell d21; go_simp⟩) d4 inv ?_
 intro inv
 go_simp
 refine wpAnyLH_oneI (i := 48) rfl (by kernel_rfl) inv (fun inv K0 hK0 => ?_)
 go_simp
 refine (hw0.out _ (e9.trans d4)).mono ?_
 rintro e Y5 ⟨rfl, hF5⟩
 have d5 := d4.trans hF5
 refine hK0 _ _ d5 ?_
 clear hK0
 refine wpAnyLH_take (i := 49) (v := .bool true) rfl (by kernel_rfl) (fun _ _ _ h => h) (.inl ⟨by rfl, fun W hW => by go_simp⟩) d5 inv ?_
 intro inv
 go_simp
 refine wpAnyLH_take (i := 50) (v := .bool true) rfl (by kernel_rfl) (fun _ _ _ h => h) (.inl ⟨by rfl, fun W hW => by go_simp⟩) d5 inv ?_
 intro inv
 go_simp
 refine wpAnyLH_take (i := 51) (v := .bool true) rfl (by kernel_rfl) (fun _ _ _ h => h) (.inl ⟨by rfl, fun W hW => by go_simp⟩) d5 inv ?_
 intro inv
 go_simp
 refine wpAnyLH_take (i := 52) (v := .bool true) rfl (by kernel_rfl) (fun _ _ _ h => h) (.inl ⟨by rfl, fun W hW => by go_simp⟩) d5 inv ?_
 intro inv
 go_simp
 refine wpAnyLH_take (i := 53) (v := .bool true) rfl (by kernel_rfl) (fun _ _ _ h => h) (.inl ⟨by rfl, fun W hW => by go_simp⟩) d5 inv ?_
 intro inv
 go_simp
 refine wpAnyLH_take (i := 54) (v := .bool true) rfl (by kernel_rfl) (fun _ _ _ h => h) (.inl ⟨by rfl, fun W hW => by go_simp⟩) d5 inv ?_
 intro inv
 go_simp
 refine wpAnyLH_take (i := 55) (v := .int .i64 0) rfl (by kernel_rfl) (fun _ _ _ h => h) (.inl ⟨by rfl, fun W hW => by go_simp⟩) d5 inv ?_
 intro inv
 go_simp
 refine wpAnyLH_take (i := 56) (v := .bool true) rfl (by kernel_rfl) (fun _ _ _ h => h) (.inl ⟨by rfl, fun W hW => by go_simp⟩) d5 inv ?_
 intro inv
 go_simp
 refine wpAnyLH_take (i := 57) (v := .bool true) rfl (by kernel_rfl) (fun _ _ _ h => h) (.inl ⟨by rfl, fun W hW => by go_simp⟩) d5 inv ?_
 intro inv
 go_simp
 refine wpAnyLH_take (i := 58) (v := .bool true) rfl (by kernel_rfl) (fun _ _ _ h => h) (.inl ⟨by rfl, fun W hW => by go_simp⟩) d5 inv ?_
 intro inv
 go_simp
 refine wpAnyLH_take (i := 59) (v := .string ⟨#[50, 44, 32, 50, 32, 53, 94, 40, 49, 47, 52, 41]⟩) rfl (by kernel_rfl) (fun _ _ _ h => h) (.inl ⟨by rfl, fun W hW => by go_simp⟩) d5 inv ?_
 intro inv
 go_simp
 refine wpAnyLH_take (i := 60) (v := .bool true) rfl (by kernel_rfl) (fun _ _ _ h => h) (.inl ⟨by rfl, fun W hW => by go_simp⟩) d5 inv ?_
 intro inv
 go_simp
 refine wpAnyLH_take (i := 61) (v := .bool true) rfl (by kernel_rfl) (fun _ _ _ h => h) (.inl ⟨by rfl, fun W hW => by go_simp⟩) d5 inv ?_
 intro inv
 go_simp
 refine wpAnyLH_take (i := 62) (v := .bool true) rfl (by kernel_rfl) (fun _ _ _ h => h) (.inl ⟨by rfl, fun W hW => by go_simp⟩) d5 inv ?_
 intro inv
 go_simp
 refine wpAnyLH_take (i := 63) (v := .int .i64 0) rfl (by kernel_rfl) (fun _ _ _ h => h) (.inl ⟨by rfl, fun W hW => by go_simp⟩) d5 inv ?_
 intro inv
 go_simp
 refine wpAnyLH_take (i := 64) (v := .bool true) rfl (by kernel_rfl) (fun _ _ _ h => h) (.inl ⟨by rfl, fun W hW => by go_simp⟩) d5 inv ?_
 intro inv
 go_simp
 refine wpAnyLH_take (i := 65) (v := .bool true) rfl (by kernel_rfl) (fun _ _ _ h => h) (.inl ⟨by rfl, fun W hW => by go_simp⟩) d5 inv ?_
 intro inv
 go_simp
 refine wpAnyLH_end (by kernel_rfl) ?_
 have e9 := e9.trans d5
 clear inv
 go_wp2_with fail
 go_ret
 exact ⟨rfl, e9⟩
end Go.Proofs.YtjnpakablgommaaGreatDoor
namespace Go.Proofs.YtjnpakablgommaaGreatDoor
open Go Go.Sort
def putAll (D : Nat → Nat) (f : Nat → Value) (a0 : Act) : Nat → Act
 | 0 => a0
 | k + 1 => (putAll D f a0 k).put (some (D k)) (f k)
theorem putAll_size (D : Nat → Nat) (f : Nat → Value) (a0 : Act) : ∀ n, (putAll D f a0 n).tmps.size = a0.tmps.size
 | 0 => rfl
 | k + 1 => by rw [putAll]; simp [Act.put, putAll_size D f a0 k]
theorem putAll_defers (D : Nat → Nat) (f : Nat → Value) (a0 : Act) : ∀ n, (putAll D f a0 n).defers = a0.defers
 | 0 => rfl
 | k + 1 => by rw [putAll]; exact putAll_defers D f a0 k
theorem putAll_other (D : Nat → Nat) (f : Nat → Value) (a0 : Act) {t : Nat} : ∀ n, (∀ j, j < n → D j ≠ t) → (putAll D f a0 n).tmps[t]? = a0.tmps[t]?
 | 0, _ => rfl
 | k + 1, h => by
  rw [putAll, ← putAll_other D f a0 k (fun j hj => h j (by omega))]
  have hne : D k ≠ t := h k (by omega)
  simp [Act.put, Array.getElem?_setIfInBounds_ne hne]
theorem putAll_at (D : Nat → Nat) (f : Nat → Value) (a0 : Act) {j : Nat} : ∀ n, j < n → (∀ i k, i < n → k < n → D i = D k → i = k) → D j < a0.tmps.size → (putAll D f a0 n).tmps[D j]? = some (f j)
 | 0, h, _, _ => by omega
 | k + 1, h, hD, hs => by
  rw [putAll]
  by_cases e : j = k
  ·subst e
   have : D j < (putAll D f a0 j).tmps.size := by rw [putAll_size]; exact hs
   simp [Act.put, this]
  ·have hne : D k ≠ D j := fun h2 => e (hD k j (by omega) (by omega) h2).symm
   have := putAll_at D f a0 (j := j) k (by omega) (fun i k' hi hk => hD i k' (by omega) (by omega)) hs
   rw [← this]
   simp [Act.put, Array.getElem?_setIfInBounds_ne hne]
theorem Frm.eq {D : Nat → Nat} {n : Nat} {a0 a : Act} (h : Frm D n a0 a) (hD : ∀ i j, i < n → j < n → D i = D j → i = j) (hsz : ∀ i, i < n → D i < a0.tmps.size) : a = putAll D (fun j => a.eval (.tmp (D j))) a0 n := by
 have ht : a.tmps = (putAll D (fun j => a.eval (.tmp (D j))) a0 n).tmps := by
  apply Array.ext_getElem?
  intro t
  by_cases hex : ∃ j, j < n ∧ D j = t
  ·obtain ⟨j, hj, rfl⟩ := hex
   rw [putAll_at D _ a0 n hj hD (hsz j hj)]
   have hlt : D j < a.tmps.size := by rw [h.size]; exact hsz j hj
   rw [Array.getElem?_eq_getElem hlt]
   simp [Act.eval, hlt]
  ·rw [putAll_other D _ a0 n (fun j hj e => hex ⟨j, hj, e⟩)]
   exact h.other t (fun j hj e => hex ⟨j, hj, e⟩)
 have hd : a.defers = (putAll D (fun j => a.eval (.tmp (D j))) a0 n).defers := by rw [putAll_defers]; exact h.defers
 cases a with
 | mk tm df =>
  generalize putAll D _ a0 n = b at *
  cases b with
  | mk tm' df' =>
   simp only at ht hd
   rw [ht, hd]
section
variable {P : Program} {ops : Array Oper} {md : Region.Mode} {Q : Exit → Act → World → Prop} {S : World → Prop}
end
end Go.Proofs.YtjnpakablgommaaGreatDoor
