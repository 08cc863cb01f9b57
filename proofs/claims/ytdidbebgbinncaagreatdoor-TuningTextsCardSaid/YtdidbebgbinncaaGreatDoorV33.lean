/- Part 33 of the proof of the claim: contracts of the functions that it reaches, and plain laws; no condition. -/
import Derived.Test.YtdidbebgbinncaaGreatDoorV32
import Derived.Test.YtdidbebgbinncaaGreatDoorV30
namespace Go.Proofs.YtdidbebgbinncaaGreatDoor
open Go.RowKit Go.Sort
theorem RV_m1 : RV ((-1 : Int) : Rat) = .agg #[.string ⟨#[45, 49]⟩, .string ⟨#[49]⟩] := by
  have e : (((-1 : Int)) : Rat) = (-1 : Rat) := rfl
  rw [e]
  show Value.agg #[I ((-1 : Rat)).num, I (((-1 : Rat)).den : Int)] = _
  rw [I_m1.1, I_m1.2]
set_option maxRecDepth 100000 in
set_option maxHeartbeats 8000000 in
theorem known24_any {w : World} (hL : Laid w) : Calls Tryz.prog 11 #[] w fun e w' => e = .returned (.bool true) ∧ Ext w w' := by
  have HL := Lib.hid hL
  have hw0 := Lib.hid (fun W (hW : Ext w W) => whole24_any (n := 0) (by omega) (hL.ext hW))
  have hw1 := Lib.hid (fun W (hW : Ext w W) => whole24_any (n := 1) (by omega) (hL.ext hW))
  have hwm := Lib.hid (fun W (hW : Ext w W) => whole24_any (n := -1) (by omega) (hL.ext hW))
  have hp := Lib.hid (fun W (hW : Ext w W) => part24_any (n := 1) (d := 4) (by omega) (by omega) (by omega) (hL.ext hW))
  rw [RV_zero] at hw0
  rw [RV_one] at hw1
  rw [RV_m1] at hwm
  rw [RV_four] at hp
  clear hL
  go_enter Tryz.func11, Tryz.ntmps11
  go_wp2_with fail
  refine (meantone24_any HL.out).mono ?_
  rintro e W1 ⟨t, rfl, ht, hE1⟩
  obtain ⟨sp, cp, sc, lc, cc, sm, lm, cm, sg, lg, cg, rfl, hT⟩ := ht
  have ea := (Ext.refl W1).alloc (.cells #[.slice sp mtP.length cp, .slice sc lc cc, .slice sm lm cm, .slice sg lg cg] 44)
  have e1 := hE1.trans ea
  have x0 : (W1.alloc (.cells #[.slice sp mtP.length cp, .slice sc lc cc, .slice sm lm cm, .slice sg lg cg] 44)).cell? ⟨W1.heap.size, 0, none⟩ = some (.slice sp mtP.length cp) := by go_simp
  have x1 : (W1.alloc (.cells #[.slice sp mtP.length cp, .slice sc lc cc, .slice sm lm cm, .slice sg lg cg] 44)).cell? ⟨W1.heap.size, 1, none⟩ = some (.slice sc lc cc) := by go_simp
  have x2 : (W1.alloc (.cells #[.slice sp mtP.length cp, .slice sc lc cc, .slice sm lm cm, .slice sg lg cg] 44)).cell? ⟨W1.heap.size, 2, none⟩ = some (.slice sm lm cm) := by go_simp
  have x3 : (W1.alloc (.cells #[.slice sp mtP.length cp, .slice sc lc cc, .slice sm lm cm, .slice sg lg cg] 44)).cell? ⟨W1.heap.size, 3, none⟩ = some (.slice sg lg cg) := by go_simp
  have HT := Lib.hid (hT.ext ea)
  obtain ⟨X, hXd⟩ : ∃ X, X = W1.alloc (.cells #[.slice sp mtP.length cp, .slice sc lc cc, .slice sm lm cm, .slice sg lg cg] 44) := ⟨_, rfl⟩
  rw [← hXd] at x0 x1 x2 x3 HT e1
  have eR := (Ext.refl X).alloc (.cells #[.int .i64 (-1), .int .i64 1, .int .i64 0] 3)
  have r1 : RowR (X.alloc (.cells #[.int .i64 (-1), .int .i64 1, .int .i64 0] 3)) (.slice (some ⟨X.heap.size, 0, none⟩) 3 3) [-1, 1, 0] := row3N (by go_simp) (by go_simp) (by go_simp)
  have HE1 := Lib.hid (show Calls Tryz.prog 15 #[tuS mtP sp cp sc lc cc sm lm cm sg lg cg, .slice (some ⟨X.heap.size, 0, none⟩) 3 3] (X.alloc (.cells #[.int .i64 (-1), .int .i64 1, .int .i64 0] 3)) (ErPost (X.alloc (.cells #[.int .i64 (-1), .int .i64 1, .int .i64 0] 3)) 3 mtM mtG [-1, 1, 0]) from tuError_any (HT.out.ext eR) r1 (HL.out.ext (e1.trans eR)))
  have hXs : X.heap.size = W1.heap.size + 1 := by rw [hXd]; simp
  rw [hXs] at HE1 r1
  rw [hXd] at HE1
  clear hT hE1 ea r1 hXs
  go_wp2_with fail
  refine HE1.out.mono ?_
  rw [← hXd]
  clear HE1 hXd
  rintro e Y ⟨hE2, (⟨q, _⟩ | ⟨_, q, _⟩ | ⟨_, _, g1, rfl, hO1⟩)⟩
  · exact absurd k24_e1 q
  · exact absurd k24_s1 q
  have e2 := eR.trans hE2
  replace x0 := e2.cell x0
  replace x1 := e2.cell x1
  replace x2 := e2.cell x2
  replace x3 := e2.cell x3
  have HT2 := Lib.hid (HT.out.ext e2)
  have e3 := e1.trans e2
  have HO1 := Lib.hid (show SzO X.heap.size Y g1 [1, -1, 1 / 4] by have := hO1.mono (B' := X.heap.size) (by simp); rw [k24_l1] at this; exact this)
  clear hE2 e2 eR hO1 HT e1
  obtain ⟨bt, hbt⟩ : ∃ b, b = W1.heap.size := ⟨_, rfl⟩
  rw [← hbt] at x0 x1 x2 x3 ⊢
  clear hbt
  have eS := (Ext.refl Y).alloc (.cells #[.int .i64 (-2), .int .i64 0, .int .i64 1] 3)
  have r2 : RowR (Y.alloc (.cells #[.int .i64 (-2), .int .i64 0, .int .i64 1] 3)) (.slice (some ⟨Y.heap.size, 0, none⟩) 3 3) [-2, 0, 1] := row3N (by go_simp) (by go_simp) (by go_simp)
  have HE2 := Lib.hid (show Calls Tryz.prog 15 #[tuS mtP sp cp sc lc cc sm lm cm sg lg cg, .slice (some ⟨Y.heap.size, 0, none⟩) 3 3] (Y.alloc (.cells #[.int .i64 (-2), .int .i64 0, .int .i64 1] 3)) (ErPost (Y.alloc (.cells #[.int .i64 (-2), .int .i64 0, .int .i64 1] 3)) 3 mtM mtG [-2, 0, 1]) from tuError_any (HT2.out.ext eS) r2 (HL.out.ext (e3.trans eS)))
  clear r2
  go_wp2_with fail
  refine HE2.out.mono ?_
  rintro e Z ⟨hE4, (⟨q, _⟩ | ⟨_, q, _⟩ | ⟨_, _, g2, rfl, hO2⟩)⟩
  · exact absurd k24_e2 q
  · exact absurd k24_s2 q
  have e4 := eS.trans hE4
  replace x0 := e4.cell x0
  replace x1 := e4.cell x1
  replace x2 := e4.cell x2
  replace x3 := e4.cell x3
  have HT3 := Lib.hid (HT2.out.ext e4)
  have e5 := e3.trans e4
  have HO1 := Lib.hid (HO1.out.ext e4)
  have HO2 := Lib.hid (show SzO Y.heap.size Z g2 [0, 0, 0] by have := hO2.mono (B' := Y.heap.size) (by simp); rw [k24_l2] at this; exact this)
  have HPu := Lib.hid (show Calls Tryz.prog 43 #[tuS mtP sp cp sc lc cc sm lm cm sg lg cg] Z fun e w' => e = .returned (.tuple #[.bool true, .int .i64 0]) ∧ Ext Z w' from by
    have h := tuPure_any HT3.out (HL.out.ext e5)
    have h2 : decide (tuL mtP.length mtM mtG (unitL mtP.length 0) = nbL (unitL mtP.length 0)) = true := k24_p
    rw [h2] at h; exact h)
  clear hE4 e4 eS hO2 HT2 e3 HE2
  go_wp2_with fail
  refine HPu.out.mono ?_
  rintro e Z2 ⟨rfl, hE6⟩
  replace x0 := hE6.cell x0
  replace x1 := hE6.cell x1
  replace x2 := hE6.cell x2
  replace x3 := hE6.cell x3
  have e7 := e5.trans hE6
  have HTx := Lib.hid (tuText_any (HT3.out.ext hE6) (HL.out.ext e7))
  rw [k24_t] at HTx
  clear HPu
  go_wp2_with fail
  refine HTx.out.mono ?_
  rintro e Z3 ⟨rfl, hE8⟩
  have e9 := e7.trans hE8
  have HO1 := HO1.out.ext (hE6.trans hE8)
  have HO2 := HO2.out.ext (hE6.trans hE8)
  have c00 : Z3.cell? ⟨g1, 0, none⟩ = some (.string ⟨#[49]⟩) := by have := (HO1.cells (i := 0) (by simp)).1; rw [← I_one1.1]; exact this
  have c01 : Z3.cell? ⟨g1, 1, none⟩ = some (.string ⟨#[49]⟩) := by have := (HO1.cells (i := 0) (by simp)).2; rw [← I_one1.2]; exact this
  have c10 : Z3.cell? ⟨g1, 2, none⟩ = some (.string ⟨#[45, 49]⟩) := by have := (HO1.cells (i := 1) (by simp)).1; rw [← I_m1.1]; exact this
  have c11 : Z3.cell? ⟨g1, 3, none⟩ = some (.string ⟨#[49]⟩) := by have := (HO1.cells (i := 1) (by simp)).2; rw [← I_m1.2]; exact this
  have c20 : Z3.cell? ⟨g1, 4, none⟩ = some (.string ⟨#[49]⟩) := by have := (HO1.cells (i := 2) (by simp)).1; rw [← I_four4.1]; exact this
  have c21 : Z3.cell? ⟨g1, 5, none⟩ = some (.string ⟨#[52]⟩) := by have := (HO1.cells (i := 2) (by simp)).2; rw [← I_four4.2]; exact this
  have d00 : Z3.cell? ⟨g2, 0, none⟩ = some (.string ⟨#[48]⟩) := by have := (HO2.cells (i := 0) (by simp)).1; rw [← I_zeroR.1]; exact this
  have d01 : Z3.cell? ⟨g2, 1, none⟩ = some (.string ⟨#[49]⟩) := by have := (HO2.cells (i := 0) (by simp)).2; rw [← I_zeroR.2]; exact this
  have d20 : Z3.cell? ⟨g2, 4, none⟩ = some (.string ⟨#[48]⟩) := by have := (HO2.cells (i := 2) (by simp)).1; rw [← I_zeroR.1]; exact this
  have d21 : Z3.cell? ⟨g2, 5, none⟩ = some (.string ⟨#[49]⟩) := by have := (HO2.cells (i := 2) (by simp)).2; rw [← I_zeroR.2]; exact this
  clear HTx HT3 e5 hE6 e7 hE8 HO1 HO2 x0 x1 x2 x3
  go_wp2_with fail
  have d0 : Ext Z3 Z3.drew := (Ext.refl Z3).drew
  refine wp_region_held_tail (S := fun W => Ext Z3 W) 66 (by kernel_rfl) (by simp) ?_
  intro inv
  generalize Z3.drew = Z4 at *
  refine wpAnyLH_take (i := 0) (v := .int .i64 0) rfl (by kernel_rfl) (fun _ _ _ h => h) (.inl ⟨by rfl, fun W hW => by go_simp⟩) d0 inv ?_
  intro inv
  go_simp
  refine wpAnyLH_take (i := 1) (v := .bool true) rfl (by kernel_rfl) (fun _ _ _ h => h) (.inl ⟨by rfl, fun W hW => by go_simp⟩) d0 inv ?_
  intro inv
  go_simp
  refine wpAnyLH_take (i := 2) (v := .bool true) rfl (by kernel_rfl) (fun _ _ _ h => h) (.inl ⟨by rfl, fun W hW => by go_simp⟩) d0 inv ?_
  intro inv
  go_simp
  refine wpAnyLH_take (i := 3) (v := slv g1 3 3) rfl (by kernel_rfl) (fun _ _ _ h => h) (.inl ⟨by rfl, fun W hW => by go_simp⟩) d0 inv ?_
  intro inv
  go_simp
  refine wpAnyLH_take (i := 4) (v := .int .i64 3) rfl (by kernel_rfl) (fun _ _ _ h => h) (.inl ⟨by rfl, fun W hW => by go_simp⟩) d0 inv ?_
  intro inv
  go_simp
  refine wpAnyLH_take (i := 5) (v := .bool true) rfl (by kernel_rfl) (fun _ _ _ h => h) (.inl ⟨by rfl, fun W hW => by go_simp⟩) d0 inv ?_
  intro inv
  go_simp
  refine wpAnyLH_take (i := 6) (v := .bool true) rfl (by kernel_rfl) (fun _ _ _ h => h) (.inl ⟨by rfl, fun W hW => by go_simp⟩) d0 inv ?_
  intro inv
  go_simp
  refine wpAnyLH_take (i := 7) (v := .bool true) rfl (by kernel_rfl) (fun _ _ _ h => h) (.inl ⟨by rfl, fun W hW => by go_simp⟩) d0 inv ?_
  intro inv
  go_simp
  refine wpAnyLH_take (i := 8) (v := slv g1 3 3) rfl (by kernel_rfl) (fun _ _ _ h => h) (.inl ⟨by rfl, fun W hW => by go_simp⟩) d0 inv ?_
  intro inv
  go_simp
  refine wpAnyLH_take (i := 9) (v := .pointer (some ⟨g1, 0, none⟩)) rfl (by kernel_rfl) (fun _ _ _ h => h) (.inl ⟨by rfl, fun W hW => by go_simp⟩) d0 inv ?_
  intro inv
  go_simp
  refine wpAnyLH_take (i := 10) (v := .agg #[.string ⟨#[49]⟩, .string ⟨#[49]⟩]) rfl (by kernel_rfl) (fun _ _ _ h => h) (.inl ⟨by rfl, fun W hW => by have z0 := hW.cell c00; have z1 := hW.cell c01; go_simp⟩) d0 inv ?_
  intro inv
  go_simp
  refine wpAnyLH_oneI (i := 11) rfl (by kernel_rfl) inv (fun inv K0 hK0 => ?_)
  go_simp
  refine (hw1.out _ (e9.trans d0)).mono ?_
  rintro e Y1 ⟨rfl, hF1⟩
  have d1 := d0.trans hF1
  refine hK0 _ _ d1 ?_
  clear hK0
  refine wpAnyLH_take (i := 12) (v := .bool true) rfl (by kernel_rfl) (fun _ _ _ h => h) (.inl ⟨by rfl, fun W hW => by go_simp⟩) d1 inv ?_
  intro inv
  go_simp
  refine wpAnyLH_take (i := 13) (v := .bool true) rfl (by kernel_rfl) (fun _ _ _ h => h) (.inl ⟨by rfl, fun W hW => by go_simp⟩) d1 inv ?_
  intro inv
  go_simp
  refine wpAnyLH_take (i := 14) (v := .bool true) rfl (by kernel_rfl) (fun _ _ _ h => h) (.inl ⟨by rfl, fun W hW => by go_simp⟩) d1 inv ?_
  intro inv
  go_simp
  refine wpAnyLH_take (i := 15) (v := slv g1 3 3) rfl (by kernel_rfl) (fun _ _ _ h => h) (.inl ⟨by rfl, fun W hW => by go_simp⟩) d1 inv ?_
  intro inv
  go_simp
  refine wpAnyLH_take (i := 16) (v := .pointer (some ⟨g1, 2, none⟩)) rfl (by kernel_rfl) (fun _ _ _ h => h) (.inl ⟨by rfl, fun W hW => by go_simp⟩) d1 inv ?_
  intro inv
  go_simp
  refine wpAnyLH_take (i := 17) (v := .agg #[.string ⟨#[45, 49]⟩, .string ⟨#[49]⟩]) rfl (by kernel_rfl) (fun _ _ _ h => h) (.inl ⟨by rfl, fun W hW => by have z0 := hW.cell c10; have z1 := hW.cell c11; go_simp⟩) d1 inv ?_
  intro inv
  go_simp
  refine wpAnyLH_oneI (i := 18) rfl (by kernel_rfl) inv (fun inv K0 hK0 => ?_)
  go_simp
  refine (hwm.out _ (e9.trans d1)).mono ?_
  rintro e Y2 ⟨rfl, hF2⟩
  have d2 := d1.trans hF2
  refine hK0 _ _ d2 ?_
  clear hK0
  refine wpAnyLH_take (i := 19) (v := .bool true) rfl (by kernel_rfl) (fun _ _ _ h => h) (.inl ⟨by rfl, fun W hW => by go_simp⟩) d2 inv ?_
  intro inv
  go_simp
  refine wpAnyLH_take (i := 20) (v := .bool true) rfl (by kernel_rfl) (fun _ _ _ h => h) (.inl ⟨by rfl, fun W hW => by go_simp⟩) d2 inv ?_
  intro inv
  go_simp
  refine wpAnyLH_take (i := 21) (v := .bool true) rfl (by kernel_rfl) (fun _ _ _ h => h) (.inl ⟨by rfl, fun W hW => by go_simp⟩) d2 inv ?_
  intro inv
  go_simp
  refine wpAnyLH_take (i := 22) (v := slv g1 3 3) rfl (by kernel_rfl) (fun _ _ _ h => h) (.inl ⟨by rfl, fun W hW => by go_simp⟩) d2 inv ?_
  intro inv
  go_simp
  refine wpAnyLH_take (i := 23) (v := .pointer (some ⟨g1, 4, none⟩)) rfl (by kernel_rfl) (fun _ _ _ h => h) (.inl ⟨by rfl, fun W hW => by go_simp⟩) d2 inv ?_
  intro inv
  go_simp
  refine wpAnyLH_take (i := 24) (v := .agg #[.string ⟨#[49]⟩, .string ⟨#[52]⟩]) rfl (by kernel_rfl) (fun _ _ _ h => h) (.inl ⟨by rfl, fun W hW => by have z0 := hW.cell c20; have z1 := hW.cell c21; go_simp⟩) d2 inv ?_
  intro inv
  go_simp
  refine wpAnyLH_oneI (i := 25) rfl (by kernel_rfl) inv (fun inv K0 hK0 => ?_)
  go_simp
  refine (hp.out _ (e9.trans d2)).mono ?_
  rintro e Y3 ⟨rfl, hF3⟩
  have d3 := d2.trans hF3
  refine hK0 _ _ d3 ?_
  clear hK0
  refine wpAnyLH_take (i := 26) (v := .bool true) rfl (by kernel_rfl) (fun _ _ _ h => h) (.inl ⟨by rfl, fun W hW => by go_simp⟩) d3 inv ?_
  intro inv
  go_simp
  refine wpAnyLH_take (i := 27) (v := .bool true) rfl (by kernel_rfl) (fun _ _ _ h => h) (.inl ⟨by rfl, fun W hW => by go_simp⟩) d3 inv ?_
  intro inv
  go_simp
  refine wpAnyLH_take (i := 28) (v := .bool true) rfl (by kernel_rfl) (fun _ _ _ h => h) (.inl ⟨by rfl, fun W hW => by go_simp⟩) d3 inv ?_
  intro inv
  go_simp
  refine wpAnyLH_take (i := 29) (v := .int .i64 0) rfl (by kernel_rfl) (fun _ _ _ h => h) (.inl ⟨by rfl, fun W hW => by go_simp⟩) d3 inv ?_
  intro inv
  go_simp
  refine wpAnyLH_take (i := 30) (v := .bool true) rfl (by kernel_rfl) (fun _ _ _ h => h) (.inl ⟨by rfl, fun W hW => by go_simp⟩) d3 inv ?_
  intro inv
  go_simp
  refine wpAnyLH_take (i := 31) (v := .bool true) rfl (by kernel_rfl) (fun _ _ _ h => h) (.inl ⟨by rfl, fun W hW => by go_simp⟩) d3 inv ?_
  intro inv
  go_simp
  refine wpAnyLH_take (i := 32) (v := .bool true) rfl (by kernel_rfl) (fun _ _ _ h => h) (.inl ⟨by rfl, fun W hW => by go_simp⟩) d3 inv ?_
  intro inv
  go_simp
  refine wpAnyLH_take (i := 33) (v := slv g2 3 3) rfl (by kernel_rfl) (fun _ _ _ h => h) (.inl ⟨by rfl, fun W hW => by go_simp⟩) d3 inv ?_
  intro inv
  go_simp
  refine wpAnyLH_take (i := 34) (v := .int .i64 3) rfl (by kernel_rfl) (fun _ _ _ h => h) (.inl ⟨by rfl, fun W hW => by go_simp⟩) d3 inv ?_
  intro inv
  go_simp
  refine wpAnyLH_take (i := 35) (v := .bool true) rfl (by kernel_rfl) (fun _ _ _ h => h) (.inl ⟨by rfl, fun W hW => by go_simp⟩) d3 inv ?_
  intro inv
  go_simp
  refine wpAnyLH_take (i := 36) (v := .bool true) rfl (by kernel_rfl) (fun _ _ _ h => h) (.inl ⟨by rfl, fun W hW => by go_simp⟩) d3 inv ?_
  intro inv
  go_simp
  refine wpAnyLH_take (i := 37) (v := .bool true) rfl (by kernel_rfl) (fun _ _ _ h => h) (.inl ⟨by rfl, fun W hW => by go_simp⟩) d3 inv ?_
  intro inv
  go_simp
  refine wpAnyLH_take (i := 38) (v := slv g2 3 3) rfl (by kernel_rfl) (fun _ _ _ h => h) (.inl ⟨by rfl, fun W hW => by go_simp⟩) d3 inv ?_
  intro inv
  go_simp
  refine wpAnyLH_take (i := 39) (v := .pointer (some ⟨g2, 0, none⟩)) rfl (by kernel_rfl) (fun _ _ _ h => h) (.inl ⟨by rfl, fun W hW => by go_simp⟩) d3 inv ?_
  intro inv
  go_simp
  refine wpAnyLH_take (i := 40) (v := .agg #[.string ⟨#[48]⟩, .string ⟨#[49]⟩]) rfl (by kernel_rfl) (fun _ _ _ h => h) (.inl ⟨by rfl, fun W hW => by have z0 := hW.cell d00; have z1 := hW.cell d01; go_simp⟩) d3 inv ?_
  intro inv
  go_simp
  refine wpAnyLH_oneI (i := 41) rfl (by kernel_rfl) inv (fun inv K0 hK0 => ?_)
  go_simp
  refine (hw0.out _ (e9.trans d3)).mono ?_
  rintro e Y4 ⟨rfl, hF4⟩
  have d4 := d3.trans hF4
  refine hK0 _ _ d4 ?_
  clear hK0
  refine wpAnyLH_take (i := 42) (v := .bool true) rfl (by kernel_rfl) (fun _ _ _ h => h) (.inl ⟨by rfl, fun W hW => by go_simp⟩) d4 inv ?_
  intro inv
  go_simp
  refine wpAnyLH_take (i := 43) (v := .bool true) rfl (by kernel_rfl) (fun _ _ _ h => h) (.inl ⟨by rfl, fun W hW => by go_simp⟩) d4 inv ?_
  intro inv
  go_simp
  refine wpAnyLH_take (i := 44) (v := .bool true) rfl (by kernel_rfl) (fun _ _ _ h => h) (.inl ⟨by rfl, fun W hW => by go_simp⟩) d4 inv ?_
  intro inv
  go_simp
  refine wpAnyLH_take (i := 45) (v := slv g2 3 3) rfl (by kernel_rfl) (fun _ _ _ h => h) (.inl ⟨by rfl, fun W hW => by go_simp⟩) d4 inv ?_
  intro inv
  go_simp
  refine wpAnyLH_take (i := 46) (v := .pointer (some ⟨g2, 4, none⟩)) rfl (by kernel_rfl) (fun _ _ _ h => h) (.inl ⟨by rfl, fun W hW => by go_simp⟩) d4 inv ?_
  intro inv
  go_simp
  refine wpAnyLH_take (i := 47) (v := .agg #[.string ⟨#[48]⟩, .string ⟨#[49]⟩]) rfl (by kernel_rfl) (fun _ _ _ h => h) (.inl ⟨by rfl, fun W hW => by have z0 := hW.cell d20; have z1 := hW.cell d21; go_simp⟩) d4 inv ?_
  intro inv
  go_simp
  refine wpAnyLH_oneI (i := 48) rfl (by kernel_rfl) inv (fun inv K0 hK0 => ?_)
  go_simp
  refine (hw0.out _ (e9.trans d4)).mono ?_
  rintro e Y5 ⟨rfl, hF5⟩
  have d5 := d4.trans hF5
  refine hK0 _ _ d5 ?_
  clear hK0
  refine wpAnyLH_take (i := 49) (v := .bool true) rfl (by kernel_rfl) (fun _ _ _ h => h) (.inl ⟨by rfl, fun W hW => by go_simp⟩) d5 inv ?_
  intro inv
  go_simp
  refine wpAnyLH_take (i := 50) (v := .bool true) rfl (by kernel_rfl) (fun _ _ _ h => h) (.inl ⟨by rfl, fun W hW => by go_simp⟩) d5 inv ?_
  intro inv
  go_simp
  refine wpAnyLH_take (i := 51) (v := .bool true) rfl (by kernel_rfl) (fun _ _ _ h => h) (.inl ⟨by rfl, fun W hW => by go_simp⟩) d5 inv ?_
  intro inv
  go_simp
  refine wpAnyLH_take (i := 52) (v := .bool true) rfl (by kernel_rfl) (fun _ _ _ h => h) (.inl ⟨by rfl, fun W hW => by go_simp⟩) d5 inv ?_
  intro inv
  go_simp
  refine wpAnyLH_take (i := 53) (v := .bool true) rfl (by kernel_rfl) (fun _ _ _ h => h) (.inl ⟨by rfl, fun W hW => by go_simp⟩) d5 inv ?_
  intro inv
  go_simp
  refine wpAnyLH_take (i := 54) (v := .bool true) rfl (by kernel_rfl) (fun _ _ _ h => h) (.inl ⟨by rfl, fun W hW => by go_simp⟩) d5 inv ?_
  intro inv
  go_simp
  refine wpAnyLH_take (i := 55) (v := .int .i64 0) rfl (by kernel_rfl) (fun _ _ _ h => h) (.inl ⟨by rfl, fun W hW => by go_simp⟩) d5 inv ?_
  intro inv
  go_simp
  refine wpAnyLH_take (i := 56) (v := .bool true) rfl (by kernel_rfl) (fun _ _ _ h => h) (.inl ⟨by rfl, fun W hW => by go_simp⟩) d5 inv ?_
  intro inv
  go_simp
  refine wpAnyLH_take (i := 57) (v := .bool true) rfl (by kernel_rfl) (fun _ _ _ h => h) (.inl ⟨by rfl, fun W hW => by go_simp⟩) d5 inv ?_
  intro inv
  go_simp
  refine wpAnyLH_take (i := 58) (v := .bool true) rfl (by kernel_rfl) (fun _ _ _ h => h) (.inl ⟨by rfl, fun W hW => by go_simp⟩) d5 inv ?_
  intro inv
  go_simp
  refine wpAnyLH_take (i := 59) (v := .string ⟨#[50, 44, 32, 50, 32, 53, 94, 40, 49, 47, 52, 41]⟩) rfl (by kernel_rfl) (fun _ _ _ h => h) (.inl ⟨by rfl, fun W hW => by go_simp⟩) d5 inv ?_
  intro inv
  go_simp
  refine wpAnyLH_take (i := 60) (v := .bool true) rfl (by kernel_rfl) (fun _ _ _ h => h) (.inl ⟨by rfl, fun W hW => by go_simp⟩) d5 inv ?_
  intro inv
  go_simp
  refine wpAnyLH_take (i := 61) (v := .bool true) rfl (by kernel_rfl) (fun _ _ _ h => h) (.inl ⟨by rfl, fun W hW => by go_simp⟩) d5 inv ?_
  intro inv
  go_simp
  refine wpAnyLH_take (i := 62) (v := .bool true) rfl (by kernel_rfl) (fun _ _ _ h => h) (.inl ⟨by rfl, fun W hW => by go_simp⟩) d5 inv ?_
  intro inv
  go_simp
  refine wpAnyLH_take (i := 63) (v := .int .i64 0) rfl (by kernel_rfl) (fun _ _ _ h => h) (.inl ⟨by rfl, fun W hW => by go_simp⟩) d5 inv ?_
  intro inv
  go_simp
  refine wpAnyLH_take (i := 64) (v := .bool true) rfl (by kernel_rfl) (fun _ _ _ h => h) (.inl ⟨by rfl, fun W hW => by go_simp⟩) d5 inv ?_
  intro inv
  go_simp
  refine wpAnyLH_take (i := 65) (v := .bool true) rfl (by kernel_rfl) (fun _ _ _ h => h) (.inl ⟨by rfl, fun W hW => by go_simp⟩) d5 inv ?_
  intro inv
  go_simp
  refine wpAnyLH_end (by kernel_rfl) ?_
  have e9 := e9.trans d5
  clear inv
  go_wp2_with fail
  go_ret
  exact ⟨rfl, e9⟩
end Go.Proofs.YtdidbebgbinncaaGreatDoor
namespace Go.Proofs.YtdidbebgbinncaaGreatDoor
open Go.RowKit Go.Sort
def SizPost (w : World) (np : Nat) (G : List (List Rat)) (x : List Int) (e : Ending) (w' : World) : Prop :=
  Ext w w' ∧ ((bgE G.length x ≠ 0 ∧ e = .returned (.tuple #[.slice none 0 0, .int .i64 (bgE G.length x)])) ∨ (bgE G.length x = 0 ∧ szE (cmbQ G (nbL x) np) ≠ 0 ∧ e = .returned (.tuple #[.slice none 0 0, .int .i64 4])) ∨ (bgE G.length x = 0 ∧ szE (cmbQ G (nbL x) np) = 0 ∧ ∃ g, e = .returned (.tuple #[slv g np np, .int .i64 0]) ∧ SzO w.heap.size w' g (cmbQ G (nbL x) np)))
theorem cmbx_nd {np : Nat} {G : List (List Rat)} {x : List Int} (hG : ∀ l ∈ G, ShQ l) (hx : ∀ z ∈ x, -1000000000 ≤ z ∧ z ≤ 1000000000) (hk : G.length ≤ 4) : ∀ r ∈ cmbQ G (nbL x) np, NdQ 200 r := fun r hr => by
  unfold cmbQ at hr
  obtain ⟨c, _, rfl⟩ := List.mem_map.1 hr
  refine (sumR_nd (E := 40) _ fun k _ => cmbF_nd (E := 30) (F := 10) (fun s hs => shQ_nd (hG s hs) (by omega)) (nbL_nd hx (by omega)) (by omega) (by omega)).mono ?_
  have : G.length * 41 ≤ 4 * 41 := Nat.mul_le_mul_right _ hk
  omega
set_option maxRecDepth 100000 in
set_option maxHeartbeats 4000000 in
theorem tuSize_any {w : World} {P : List Int} {C M : Mx} {G : List (List Rat)} {sp : Option Addr} {cp : Nat} {sc : Option Addr} {lc cc : Nat} {sm : Option Addr} {lm cm : Nat} {sg : Option Addr} {lg cg : Nat} {sx : Option Addr} {nx cx : Nat} {x : List Int} (h : TuV w P C M G sp cp sc lc cc sm lm cm sg lg cg) (hx : RowR w (.slice sx nx cx) x) (hL : Laid w) :
    Calls Tryz.prog 26 #[tuS P sp cp sc lc cc sm lm cm sg lg cg, .slice sx nx cx] w (SizPost w P.length G x) := by
  have hck := Lib.hid (fun W (hW : Ext w W) => tuCheck_any (h.ext hW) (hL.ext hW))
  obtain ⟨hT, hG, hln, hcl, hsh⟩ := h
  have hm4 := hT.m4
  have hp4 := hT.ok.p4
  have hg4 : G.length ≤ 4 := by omega
  have hlg := hG.len
  have hrc := Lib.hid (fun W (hW : Ext w W) => rowCheck_any (hx.ext hW))
  have hnx : nx = x.length := by obtain ⟨_, _, _, _, e, _⟩ := hx; injection e
  have hnp : ∀ c : List Rat, True := fun _ => trivial
  have hcm := cmbx_nd (np := P.length) hsh (x := x)
  have Hnum := Lib.hid (fun W (hW : Ext w W) (hc : chkRow x = 0) => numbers_any (hx.ext hW) (by have := (chkRow_ok hc).1; omega) (fun z hz => by have := (chkRow_ok hc).2 z hz; unfold I64; omega) (hL.ext hW))
  have Hcmb := Lib.hid (fun W v (hW : Ext w W) (hc : chkRow x = 0) (hl : x.length = G.length) (hv : SzR W v (nbL x)) => combine_any (pa := sp) (cp := cp) (hG.ext hW) hv hcl (by rw [nbL_length]; omega) (fun s hs => shQ_nd (hsh s hs) (by omega)) (nbL_nd (chkRow_ok hc).2 (by omega)) (by omega) (by omega) (hL.ext hW))
  have hpc := hT.pchk
  have Hyes := Lib.hid (fun W v (hW : Ext w W) (hc : chkRow x = 0) (h0 : szE (cmbQ G (nbL x) P.length) = 0) (hv : SzR W v (cmbQ G (nbL x) P.length)) => tuResult_yes (pa := sp) (cp := cp) h0 (fun W2 h2 => hpc W2 (hW.trans h2)) hv (by simp) (fun r hr => (hcm (chkRow_ok hc).2 hg4 r hr).mono (by omega)) (by omega) (hL.ext hW))
  have Hno := Lib.hid (fun W v (hW : Ext w W) (hc : chkRow x = 0) (h0 : szE (cmbQ G (nbL x) P.length) ≠ 0) (hv : SzR W v (cmbQ G (nbL x) P.length)) => tuResult_no (pa := sp) (cp := cp) h0 (fun W2 h2 => hpc W2 (hW.trans h2)) hv (by simp) (fun r hr => (hcm (chkRow_ok hc).2 hg4 r hr).mono (by omega)) (by omega) (hL.ext hW))
  have hbg : bgE G.length x = if chkRow x = 0 then (if x.length = G.length then 0 else 5) else chkRow x := rfl
  have hX := (Ext.refl w).alloc (.cells #[.slice sp P.length cp, .slice sc lc cc, .slice sm lm cm, .slice sg lg cg] 44)
  have x0 : (w.alloc (.cells #[.slice sp P.length cp, .slice sc lc cc, .slice sm lm cm, .slice sg lg cg] 44)).cell? ⟨w.heap.size, 0, none⟩ = some (.slice sp P.length cp) := by go_simp
  have x1 : (w.alloc (.cells #[.slice sp P.length cp, .slice sc lc cc, .slice sm lm cm, .slice sg lg cg] 44)).cell? ⟨w.heap.size, 1, none⟩ = some (.slice sc lc cc) := by go_simp
  have x2 : (w.alloc (.cells #[.slice sp P.length cp, .slice sc lc cc, .slice sm lm cm, .slice sg lg cg] 44)).cell? ⟨w.heap.size, 2, none⟩ = some (.slice sm lm cm) := by go_simp
  have x3 : (w.alloc (.cells #[.slice sp P.length cp, .slice sc lc cc, .slice sm lm cm, .slice sg lg cg] 44)).cell? ⟨w.heap.size, 3, none⟩ = some (.slice sg lg cg) := by go_simp
  obtain ⟨y, hy⟩ : ∃ y, y = bgE G.length x := ⟨_, rfl⟩
  rw [← hy] at hbg
  have Hy := Lib.hid hy
  have Hend := Lib.hid (fun (e : Ending) W (hE : Ext w W) (h : y ≠ 0) (he : e = .returned (.tuple #[.slice none 0 0, .int .i64 y])) => show SizPost w P.length G x e W from ⟨hE, .inl ⟨by rw [← Hy.out]; exact h, by rw [← Hy.out]; exact he⟩⟩)
  have Hll := Lib.hid (cmbQ_length G (nbL x) P.length)
  subst hlg
  have Hnx := Lib.hid hnx
  clear hT hG hln hcl hsh hm4 hp4 hL hpc hcm hnp hy hx
  obtain ⟨z, hz⟩ : ∃ z, z = chkRow x := ⟨_, rfl⟩
  rw [← hz] at hrc hbg
  have Hz := Lib.hid hz
  clear hz
  by_cases hz0 : z = 0
  · subst hz0
    rw [if_pos rfl, ← hnx] at hbg
    by_cases hn : nx = G.length
    · rw [if_pos hn] at hbg
      have Hn := Lib.hid (show x.length = G.length by rw [← Hnx.out]; exact hn)
      have Hzz := Lib.hid (show chkRow x = 0 from Hz.out.symm)
      have Hy0 := Lib.hid (show bgE G.length x = 0 by rw [← Hy.out]; exact hbg)
      obtain ⟨l, hl⟩ : ∃ l, l = cmbQ G (nbL x) P.length := ⟨_, rfl⟩
      have Hl := Lib.hid hl
      simp only [← hl] at Hyes Hno Hcmb Hll
      clear hbg Hend hl hnx
      subst hn
      go_enter Tryz.func26, Tryz.ntmps26
      go_wp2_with fail
      refine (hck.out _ hX).mono ?_
      rintro e X0 ⟨rfl, hE0⟩
      have e0 := hX.trans hE0
      replace x0 := hE0.cell x0
      replace x3 := hE0.cell x3
      clear hck hX hE0 x1 x2
      go_wp2_with fail
      refine (hrc.out _ e0).mono ?_
      rintro e X1 ⟨rfl, hE1⟩
      have e1 := e0.trans hE1
      replace x0 := hE1.cell x0
      replace x3 := hE1.cell x3
      clear hrc hE1 e0
      go_wp2_with fail
      have d0 : Ext X1 X1.drew := (Ext.refl X1).drew
      refine wp_region_held_tail (S := fun W => Ext X1 W) 10 (by kernel_rfl) (by simp) ?_
      intro inv
      generalize X1.drew = X2 at *
      refine wpAnyLH_take (i := 0) (v := .slice sp P.length cp) rfl (by kernel_rfl) (fun _ _ _ h => h) (.inl ⟨by rfl, fun W hW => by go_simp⟩) d0 inv ?_
      intro inv
      go_simp
      refine wpAnyLH_take (i := 1) (v := .slice sp P.length cp) rfl (by kernel_rfl) (fun _ _ _ h => h) (.inl ⟨by rfl, fun W hW => by go_simp⟩) d0 inv ?_
      intro inv
      go_simp
      refine wpAnyLH_take (i := 2) (v := .pointer (some ⟨w.heap.size, 3, none⟩)) rfl (by kernel_rfl) (fun _ _ _ h => h) (.inl ⟨by rfl, fun W hW => by go_simp⟩) d0 inv ?_
      intro inv
      go_simp
      refine wpAnyLH_take (i := 3) (v := .slice sg G.length cg) rfl (by kernel_rfl) (fun _ _ _ h => h) (.inl ⟨by rfl, fun W hW => by have z0 := hW.cell x3; go_simp⟩) d0 inv ?_
      intro inv
      go_simp
      refine wpAnyLH_take (i := 4) (v := .slice sx G.length cx) rfl (by kernel_rfl) (fun _ _ _ h => h) (.inl ⟨by rfl, fun W hW => by go_simp⟩) d0 inv ?_
      intro inv
      go_simp
      refine wpAnyLH_oneI (i := 5) rfl (by kernel_rfl) inv (fun inv K0 hK0 => ?_)
      go_simp
      refine (Hnum.out _ (e1.trans d0) Hzz.out).mono ?_
      rintro e X3 ⟨⟨u, rfl, hu⟩, hG1⟩
      have d1 := d0.trans hG1
      have Hu := Lib.hid hu.read
      obtain ⟨ua, ul, uc, rfl⟩ := hu.slice
      refine hK0 _ _ d1 ?_
      clear hK0 hu
      refine wpAnyLH_oneI (i := 6) rfl (by kernel_rfl) inv (fun inv K0 hK0 => ?_)
      go_simp
      refine (Hcmb.out _ _ (e1.trans d1) Hzz.out Hn.out Hu.out).mono ?_
      rintro e X4 ⟨⟨gq, rfl, hgq, hO⟩, hG2⟩
      have d2 := d1.trans hG2
      have HO := Lib.hid hO
      have Hsz := Lib.hid (show SzR X4 (slv gq P.length P.length) l by have := hO.val.read; rwa [Hll.out] at this)
      refine hK0 _ _ d2 ?_
      clear hK0 hO
      refine wpAnyLH_oneI (i := 7) rfl (by kernel_rfl) inv (fun inv K0 hK0 => ?_)
      go_simp
      by_cases h0 : szE l = 0
      · skip
        refine (Hyes.out _ _ (e1.trans d2) Hzz.out h0 Hsz.out).mono ?_
        rintro e X5 ⟨rfl, hG3⟩
        have d3 := d2.trans hG3
        have H0 := Lib.hid h0
        refine hK0 _ _ d3 ?_
        clear hK0 h0
        refine wpAnyLH_take (i := 8) (v := slv gq P.length P.length) rfl (by kernel_rfl) (fun _ _ _ h => h) (.inl ⟨by rfl, fun W hW => by go_simp⟩) d3 inv ?_
        intro inv
        go_simp
        refine wpAnyLH_take (i := 9) (v := .int .i64 0) rfl (by kernel_rfl) (fun _ _ _ h => h) (.inl ⟨by rfl, fun W hW => by go_simp⟩) d3 inv ?_
        intro inv
        go_simp
        refine wpAnyLH_end (by kernel_rfl) ?_
        have hg9 : w.heap.size ≤ X3.heap.size := by have := e1.size; have := d1.size; omega
        have HO9 := Lib.hid ((HO.out.ext hG3).mono (B' := w.heap.size) hg9)
        have e9 := e1.trans d3
        clear HO inv d0 d1 d2 d3 hG1 hG2 hG3 hgq x3 x0 Hnum Hcmb Hu Hyes Hno
        go_wp2_with fail
        go_ret2
        exact ⟨e9, .inr (.inr ⟨Hy0.out, by rw [← Hl.out]; exact H0.out, gq, rfl, by rw [← Hl.out]; exact HO9.out⟩)⟩
      · skip
        refine (Hno.out _ _ (e1.trans d2) Hzz.out h0 Hsz.out).mono ?_
        rintro e X5 ⟨rfl, hG3⟩
        have d3 := d2.trans hG3
        have H0 := Lib.hid h0
        refine hK0 _ _ d3 ?_
        clear hK0 h0
        refine wpAnyLH_take (i := 8) (v := .slice none 0 0) rfl (by kernel_rfl) (fun _ _ _ h => h) (.inl ⟨by rfl, fun W hW => by go_simp⟩) d3 inv ?_
        intro inv
        go_simp
        refine wpAnyLH_take (i := 9) (v := .int .i64 4) rfl (by kernel_rfl) (fun _ _ _ h => h) (.inl ⟨by rfl, fun W hW => by go_simp⟩) d3 inv ?_
        intro inv
        go_simp
        refine wpAnyLH_end (by kernel_rfl) ?_
        have hg9 : w.heap.size ≤ X3.heap.size := by have := e1.size; have := d1.size; omega
        have HO9 := Lib.hid ((HO.out.ext hG3).mono (B' := w.heap.size) hg9)
        have e9 := e1.trans d3
        clear HO inv d0 d1 d2 d3 hG1 hG2 hG3 hgq x3 x0 Hnum Hcmb Hu Hyes Hno
        go_wp2_with fail
        go_ret2
        exact ⟨e9, .inr (.inl ⟨Hy0.out, by rw [← Hl.out]; exact H0.out, rfl⟩)⟩
    · rw [if_neg hn] at hbg
      subst hbg
      have h1 : ¬ ((nx : Int) = (G.length : Int)) := by omega
      have h2 : ((nx : Int) == (G.length : Int)) = false := beq_eq_false_iff_ne.2 h1
      have h3 : ((nx : Int) != (G.length : Int)) = true := by simp [bne, h2]
      clear Hnum Hcmb Hyes Hno hn hnx
      go_enter Tryz.func26, Tryz.ntmps26
      go_wp2_with fail
      refine (hck.out _ hX).mono ?_
      rintro e X0 ⟨rfl, hE0⟩
      have e0 := hX.trans hE0
      replace x3 := hE0.cell x3
      clear hck hX hE0 x0 x1 x2
      go_wp2_with fail
      refine (hrc.out _ e0).mono ?_
      rintro e X1 ⟨rfl, hE1⟩
      have e1 := e0.trans hE1
      replace x3 := hE1.cell x3
      go_wp2_with fail
      go_ret2
      exact Hend.out _ _ e1 (by decide) rfl
  · rw [if_neg hz0] at hbg
    subst hbg
    have h2 : (y == 0) = false := beq_eq_false_iff_ne.2 hz0
    have h3 : (y != 0) = true := by simp [bne, h2]
    clear Hnum Hcmb Hyes Hno hnx
    go_enter Tryz.func26, Tryz.ntmps26
    go_wp2_with fail
    refine (hck.out _ hX).mono ?_
    rintro e X0 ⟨rfl, hE0⟩
    have e0 := hX.trans hE0
    clear hck hX hE0 x0 x1 x2
    go_wp2_with fail
    refine (hrc.out _ e0).mono ?_
    rintro e X1 ⟨rfl, hE1⟩
    have e1 := e0.trans hE1
    go_wp2_with fail
    go_ret2
    exact Hend.out _ _ e1 hz0 rfl
  end Go.Proofs.YtdidbebgbinncaaGreatDoor
