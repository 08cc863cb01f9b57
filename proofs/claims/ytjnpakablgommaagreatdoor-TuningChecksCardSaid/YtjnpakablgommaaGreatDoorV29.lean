/- Part 29 of the proof of the claim: contracts of the functions that it reaches, and plain laws; no condition. -/
import Derived.Test.YtjnpakablgommaaGreatDoorV28
import Derived.Test.YtjnpakablgommaaGreatDoorV26
import Derived.Test.YtjnpakablgommaaGreatDoorV15
import Derived.Test.YtjnpakablgommaaGreatDoorV24
set_option maxRecDepth 100000
namespace Go.Proofs.YtjnpakablgommaaGreatDoor
open Go.RowKit Go.Sort
open Hnf (V Span)
def mtC : Mx := [[4, -4, 1]]
def mtM : Mx := [[1, 0, -4], [0, 1, 4]]
def mtP : List Int := [2, 3, 5]
theorem mtM_isH : IsH 3 [0, 1] mtM where
 rect := by unfold Rect; decide
 len := rfl
 lt := by decide
 inc := fun i k h1 h2 => by
  have : k < 2 := h2
  obtain rfl : k = 1 := by omega
  obtain rfl : i = 0 := by omega
  decide
 left := fun i hi j hj => by
  have : i < 2 := hi
  rcases (show i = 0 ∨ i = 1 by omega) with rfl | rfl
  ·have : j < 0 := hj
   omega
  ·have : j < 1 := hj
   obtain rfl : j = 0 := by omega
   decide
 pos := by decide
 red := fun i k h1 h2 => by
  have : k < 2 := h2
  obtain rfl : k = 1 := by omega
  obtain rfl : i = 0 := by omega
  decide
theorem mtC_isH : IsH 3 [0] mtC where
 rect := by unfold Rect; decide
 len := rfl
 lt := by decide
 inc := fun i k h1 h2 => by
  have : k < 1 := h2
  omega
 left := fun i hi j hj => by
  have : i < 1 := hi
  obtain rfl : i = 0 := by omega
  have : j < 0 := hj
  omega
 pos := by decide
 red := fun i k h1 h2 => by
  have : k < 1 := h2
  omega
theorem vr3 (a b c : Int) (y : V) : dotV 3 (vr [a, b, c]) y = a * y 0 + b * y 1 + c * y 2 := by
 simp [dotV, sumZ, vr]
theorem vr3_at (a b c : Int) (j : Nat) (h : 3 ≤ j) : vr [a, b, c] j = 0 := by
 show [a, b, c].getD j 0 = 0
 rw [List.getD_eq_getElem?_getD, List.getElem?_eq_none (by simpa using h)]; rfl
theorem mt_kM : KerL 3 (latM mtC) mtM := by
 refine ⟨⟨_, mtM_isH⟩, fun y => ⟨fun h => ?_, fun ⟨h1, h2⟩ => ?_⟩⟩
 ·obtain ⟨t, rfl⟩ := span_cmb.1 h
  refine ⟨fun v hv => ?_, fun i hi => ?_⟩
  ·simp only [latM, mtC, List.map_cons, List.map_nil, List.mem_cons, List.not_mem_nil, or_false] at hv
   subst hv
   rw [vr3]
   simp [cmb, sumZ, eM, mtM]
   omega
  ·simp only [cmb, sumZ, mtM, List.length_cons, List.length_nil]
   have e1 : eM [[1, 0, -4], [0, 1, 4]] 0 i = 0 := vr3_at 1 0 (-4) i hi
   have e2 : eM [[1, 0, -4], [0, 1, 4]] 1 i = 0 := vr3_at 0 1 4 i hi
   simp [e1, e2]
 ·have h3 := h1 (vr [4, -4, 1]) (by simp [latM, mtC])
  rw [vr3] at h3
  refine span_cmb.2 ⟨y, ?_⟩
  funext j
  simp only [cmb, sumZ, mtM, List.length_cons, List.length_nil]
  rcases (show j = 0 ∨ j = 1 ∨ j = 2 ∨ 3 ≤ j by omega) with rfl | rfl | rfl | hj
  ·simp [eM]
  ·simp [eM]
  ·simp [eM]; omega
  ·have e1 : eM [[1, 0, -4], [0, 1, 4]] 0 j = 0 := vr3_at 1 0 (-4) j hj
   have e2 : eM [[1, 0, -4], [0, 1, 4]] 1 j = 0 := vr3_at 0 1 4 j hj
   simp [e1, e2, h2 j hj]
theorem mt_kC : KerL 3 (latM mtM) mtC := by
 refine ⟨⟨_, mtC_isH⟩, fun y => ⟨fun h => ?_, fun ⟨h1, h2⟩ => ?_⟩⟩
 ·obtain ⟨t, rfl⟩ := span_cmb.1 h
  refine ⟨fun v hv => ?_, fun i hi => ?_⟩
  ·simp only [latM, mtM, List.map_cons, List.map_nil, List.mem_cons, List.not_mem_nil, or_false] at hv
   rcases hv with rfl | rfl
   ·rw [vr3]; simp [cmb, sumZ, eM, mtC]; omega
   ·rw [vr3]; simp [cmb, sumZ, eM, mtC]; omega
  ·simp only [cmb, sumZ, mtC, List.length_cons, List.length_nil]
   have e1 : eM [[4, -4, 1]] 0 i = 0 := vr3_at 4 (-4) 1 i hi
   simp [e1]
 ·have h3 := h1 (vr [1, 0, -4]) (by simp [latM, mtM])
  have h4 := h1 (vr [0, 1, 4]) (by simp [latM, mtM])
  rw [vr3] at h3 h4
  refine span_cmb.2 ⟨fun _ => y 2, ?_⟩
  funext j
  simp only [cmb, sumZ, mtC, List.length_cons, List.length_nil]
  rcases (show j = 0 ∨ j = 1 ∨ j = 2 ∨ 3 ≤ j by omega) with rfl | rfl | rfl | hj
  ·simp [eM]; omega
  ·simp [eM]; omega
  ·simp [eM]
  ·have e1 : eM [[4, -4, 1]] 0 j = 0 := vr3_at 4 (-4) 1 j hj
   simp [e1, h2 j hj]
theorem vr3_abs {a b c : Int} {B : Nat} (ha : a.natAbs ≤ B) (hb : b.natAbs ≤ B) (hc : c.natAbs ≤ B) (j : Nat) : (vr [a, b, c] j).natAbs ≤ B := by
 rcases (show j = 0 ∨ j = 1 ∨ j = 2 ∨ 3 ≤ j by omega) with rfl | rfl | rfl | hj
 ·exact ha
 ·exact hb
 ·exact hc
 ·rw [vr3_at a b c j hj]; simp
theorem mt_uC : ∃ qs d w, KSet 3 (latM mtC) qs mtC 1000000 d w := by
 obtain ⟨d, w, h⟩ := kset_self (n := 3) (C := 4) (U := latM mtC) (qs := [0]) (K := mtC) (d := 4) (w := fun _ => vr [4, -4, 1]) mtC_isH ⟨by decide, fun k hk => .mem (by simp [latM, mtC]), fun k hk s hs => by
  have h1 : k < 1 := hk
  have h2 : s < 1 := hs
  obtain rfl : k = 0 := by omega
  obtain rfl : s = 0 := by omega
  rfl, fun k hk j => vr3_abs (by decide) (by decide) (by decide) j⟩ (fun v hv => .mem hv) (fun _ => by decide)
 exact ⟨_, d, w, h⟩
theorem mt_uM : ∃ qs d w, KSet 3 (latM mtM) qs mtM 1000000 d w := by
 obtain ⟨d, w, h⟩ := kset_self (n := 3) (C := 4) (U := latM mtM) (qs := [0, 1]) (K := mtM) (d := 1) (w := fun k => vr (mtM.getD k [])) mtM_isH ⟨by decide, fun k hk => .mem (by
  have h1 : k < 2 := hk
  rcases (show k = 0 ∨ k = 1 by omega) with rfl | rfl <;> simp [latM, mtM]), fun k hk s hs => by
  have h1 : k < 2 := hk
  have h2 : s < 2 := hs
  rcases (show k = 0 ∨ k = 1 by omega) with rfl | rfl <;> rcases (show s = 0 ∨ s = 1 by omega) with rfl | rfl <;> rfl, fun k hk j => by
  have h1 : k < 2 := hk
  rcases (show k = 0 ∨ k = 1 by omega) with rfl | rfl
  ·exact vr3_abs (a := 1) (b := 0) (c := -4) (by decide) (by decide) (by decide) j
  ·exact vr3_abs (a := 0) (b := 1) (c := 4) (by decide) (by decide) (by decide) j⟩ (fun v hv => .mem hv) (fun _ => by decide)
 exact ⟨_, d, w, h⟩
theorem mt_ok : TmOK mtP mtC mtM where
 pr := by intro x hx; simp [mtP] at hx; unfold SmP; omega
 inc := fun i h => by
  have : i + 1 < 3 := h
  rcases (show i = 0 ∨ i = 1 by omega) with rfl | rfl
  ·show (2 : Int) < 3; decide
  ·show (3 : Int) < 5; decide
 p0 := by decide
 p4 := by decide
 kM := mt_kM
 kC := mt_kC
 sC := by unfold SmK; decide
 sM := by unfold SmK; decide
 bC := by decide
 bM := by decide
 uC := mt_uC
 uM := mt_uM
end Go.Proofs.YtjnpakablgommaaGreatDoor
namespace Go.Proofs.YtjnpakablgommaaGreatDoor
open Go.RowKit Go.Sort
theorem row3N {W : World} {b : Nat} {a0 a1 a2 : Int} (h0 : W.cell? ⟨b, 0, none⟩ = some (.int .i64 a0)) (h1 : W.cell? ⟨b, 1, none⟩ = some (.int .i64 a1)) (h2 : W.cell? ⟨b, 2, none⟩ = some (.int .i64 a2)) : RowR W (.slice (some ⟨b, 0, none⟩) 3 3) [a0, a1, a2] :=
 rowN (l := [a0, a1, a2]) rfl fun i hi => by
  have hi3 : i < 3 := hi
  rcases (show i = 0 ∨ i = 1 ∨ i = 2 by omega) with rfl | rfl | rfl
  ·exact h0
  ·exact h1
  ·exact h2
theorem matN {W : World} {b n : Nat} {M : Mx} {vs : List Value} (hn : M.length = n) (hv : vs.length = n) (hc : ∀ i (h : i < vs.length), W.cell? ⟨b, i, none⟩ = some vs[i]) (hr : ∀ i (h : i < M.length) (h' : i < vs.length), RowR W vs[i] M[i]) : MatR W (.slice (some ⟨b, 0, none⟩) n n) M := by
 refine ⟨_, b, 0, n, vs, by rw [hn], by omega, by omega, ⟨fun _ => rfl, fun i u hu => ?_⟩, hr⟩
 obtain ⟨hi, rfl⟩ := List.getElem?_eq_some_iff.1 hu
 rw [Nat.zero_add]; exact hc i hi
theorem mat1N {W : World} {b : Nat} {v0 : Value} {r0 : List Int} (h0 : W.cell? ⟨b, 0, none⟩ = some v0) (k0 : RowR W v0 r0) : MatR W (.slice (some ⟨b, 0, none⟩) 1 1) [r0] :=
 matN (vs := [v0]) rfl rfl (fun i hi => by
  have hi3 : i < 1 := hi
  obtain rfl : i = 0 := by omega
  exact h0) (fun i hi _ => by
  have hi3 : i < 1 := hi
  obtain rfl : i = 0 := by omega
  exact k0)
theorem mat2N {W : World} {b : Nat} {v0 v1 : Value} {r0 r1 : List Int} (h0 : W.cell? ⟨b, 0, none⟩ = some v0) (h1 : W.cell? ⟨b, 1, none⟩ = some v1) (k0 : RowR W v0 r0) (k1 : RowR W v1 r1) : MatR W (.slice (some ⟨b, 0, none⟩) 2 2) [r0, r1] :=
 matN (vs := [v0, v1]) rfl rfl (fun i hi => by
  have hi3 : i < 2 := hi
  rcases (show i = 0 ∨ i = 1 by omega) with rfl | rfl
  ·exact h0
  ·exact h1) (fun i hi _ => by
  have hi3 : i < 2 := hi
  rcases (show i = 0 ∨ i = 1 by omega) with rfl | rfl
  ·exact k0
  ·exact k1)
set_option maxHeartbeats 1000000 in
theorem whole24_any {n : Int} (hn : -9223372036854775808 ≤ n ∧ n ≤ 9223372036854775807) {w : World} (hL : Laid w) :
  Calls Tryz.prog 80 #[.int .i64 n] w fun e w' => e = .returned (RV (n : Rat)) ∧ Ext w w' := by
 have hof := Lib.hid (fun W (hW : Ext w W) => ratOf_any (d := 1) hn (by omega) (by omega) (hL.ext hW))
 rw [show ((n : Rat) / ((1 : Int) : Rat)) = (n : Rat) by grind] at hof
 obtain ⟨r, hr⟩ : ∃ r : Rat, r = (n : Rat) := ⟨_, rfl⟩
 rw [← hr] at hof ⊢
 unfold RV at hof ⊢
 generalize r.num = x at *
 generalize ((r.den : Nat) : Int) = y at *
 have HO := Lib.hid (two_alloc w 81 (.string ⟨#[]⟩) (.string ⟨#[]⟩))
 have hX : Ext w (w.alloc (.cells #[.string ⟨#[]⟩, .string ⟨#[]⟩] 81)) := (Ext.refl w).alloc _
 clear hr hn hL
 go_enter Tryz.func80, Tryz.ntmps80
 go_wp2_with fail
 refine (hof.out _ hX).mono ?_
 rintro e w1 ⟨rfl, hE1⟩
 replace HO := Lib.hid (HO.out.ext hE1)
 replace hX := hX.trans hE1
 clear hof
 have HN := two_alloc w1 81 (I x) (I y)
 have hXN : Ext w1 (w1.alloc (.cells #[I x, I y] 81)) := (Ext.refl w1).alloc _
 have c0 : (w1.alloc (.cells #[I x, I y] 81)).cell? ⟨w1.heap.size, 0, none⟩ = some (I x) := HN.cell (j := 0) (by simp)
 have c1 : (w1.alloc (.cells #[I x, I y] 81)).cell? ⟨w1.heap.size, 1, none⟩ = some (I y) := HN.cell (j := 1) (by simp)
 clear HN
 replace HO := Lib.hid (HO.out.ext hXN)
 replace hX := hX.trans hXN
 obtain ⟨q0, q1, f0, f1, r0, r1, hF⟩ := two_end hX (Nat.le_refl _) HO.out (I x) (I y)
 have Hres := Lib.hid (show RetF w (.agg #[I x, I y]) (.returned (.agg #[I x, I y])) _ from ⟨rfl, hF.out⟩)
 go_wp2_with fail
 refine bodyPost_ret (v := .agg #[I x, I y]) (by simp [results, Tryz.results80, go_sem, r0, r1]) rfl Hres.out
set_option maxHeartbeats 1000000 in
theorem part24_any {n d : Int} (hn : -9223372036854775808 ≤ n ∧ n ≤ 9223372036854775807) (hd : -9223372036854775808 ≤ d ∧ d ≤ 9223372036854775807) (h0 : d ≠ 0) {w : World} (hL : Laid w) :
  Calls Tryz.prog 81 #[.int .i64 n, .int .i64 d] w fun e w' => e = .returned (RV ((n : Rat) / (d : Rat))) ∧ Ext w w' := by
 have hof := Lib.hid (fun W (hW : Ext w W) => ratOf_any hn hd h0 (hL.ext hW))
 obtain ⟨r, hr⟩ : ∃ r : Rat, r = ((n : Rat) / (d : Rat)) := ⟨_, rfl⟩
 rw [← hr] at hof ⊢
 unfold RV at hof ⊢
 generalize r.num = x at *
 generalize ((r.den : Nat) : Int) = y at *
 have HO := Lib.hid (two_alloc w 81 (.string ⟨#[]⟩) (.string ⟨#[]⟩))
 have hX : Ext w (w.alloc (.cells #[.string ⟨#[]⟩, .string ⟨#[]⟩] 81)) := (Ext.refl w).alloc _
 clear hr hn hL hd h0
 go_enter Tryz.func81, Tryz.ntmps81
 go_wp2_with fail
 refine (hof.out _ hX).mono ?_
 rintro e w1 ⟨rfl, hE1⟩
 replace HO := Lib.hid (HO.out.ext hE1)
 replace hX := hX.trans hE1
 clear hof
 have HN := two_alloc w1 81 (I x) (I y)
 have hXN : Ext w1 (w1.alloc (.cells #[I x, I y] 81)) := (Ext.refl w1).alloc _
 have c0 : (w1.alloc (.cells #[I x, I y] 81)).cell? ⟨w1.heap.size, 0, none⟩ = some (I x) := HN.cell (j := 0) (by simp)
 have c1 : (w1.alloc (.cells #[I x, I y] 81)).cell? ⟨w1.heap.size, 1, none⟩ = some (I y) := HN.cell (j := 1) (by simp)
 clear HN
 replace HO := Lib.hid (HO.out.ext hXN)
 replace hX := hX.trans hXN
 obtain ⟨q0, q1, f0, f1, r0, r1, hF⟩ := two_end hX (Nat.le_refl _) HO.out (I x) (I y)
 have Hres := Lib.hid (show RetF w (.agg #[I x, I y]) (.returned (.agg #[I x, I y])) _ from ⟨rfl, hF.out⟩)
 go_wp2_with fail
 refine bodyPost_ret (v := .agg #[I x, I y]) (by simp [results, Tryz.results81, go_sem, r0, r1]) rfl Hres.out
set_option maxHeartbeats 1000000 in
theorem part13_any {n d : Int} (hn : -9223372036854775808 ≤ n ∧ n ≤ 9223372036854775807) (hd : -9223372036854775808 ≤ d ∧ d ≤ 9223372036854775807) (h0 : d ≠ 0) {w : World} (hL : Laid w) :
  Calls Tryz.prog 158 #[.int .i64 n, .int .i64 d] w fun e w' => e = .returned (RV ((n : Rat) / (d : Rat))) ∧ Ext w w' := by
 have hof := Lib.hid (fun W (hW : Ext w W) => ratOf_any hn hd h0 (hL.ext hW))
 obtain ⟨r, hr⟩ : ∃ r : Rat, r = ((n : Rat) / (d : Rat)) := ⟨_, rfl⟩
 rw [← hr] at hof ⊢
 unfold RV at hof ⊢
 generalize r.num = x at *
 generalize ((r.den : Nat) : Int) = y at *
 have HO := Lib.hid (two_alloc w 81 (.string ⟨#[]⟩) (.string ⟨#[]⟩))
 have hX : Ext w (w.alloc (.cells #[.string ⟨#[]⟩, .string ⟨#[]⟩] 81)) := (Ext.refl w).alloc _
 clear hr hn hL hd h0
 go_enter Tryz.func158, Tryz.ntmps158
 go_wp2_with fail
 refine (hof.out _ hX).mono ?_
 rintro e w1 ⟨rfl, hE1⟩
 replace HO := Lib.hid (HO.out.ext hE1)
 replace hX := hX.trans hE1
 clear hof
 have HN := two_alloc w1 81 (I x) (I y)
 have hXN : Ext w1 (w1.alloc (.cells #[I x, I y] 81)) := (Ext.refl w1).alloc _
 have c0 : (w1.alloc (.cells #[I x, I y] 81)).cell? ⟨w1.heap.size, 0, none⟩ = some (I x) := HN.cell (j := 0) (by simp)
 have c1 : (w1.alloc (.cells #[I x, I y] 81)).cell? ⟨w1.heap.size, 1, none⟩ = some (I y) := HN.cell (j := 1) (by simp)
 clear HN
 replace HO := Lib.hid (HO.out.ext hXN)
 replace hX := hX.trans hXN
 obtain ⟨q0, q1, f0, f1, r0, r1, hF⟩ := two_end hX (Nat.le_refl _) HO.out (I x) (I y)
 have Hres := Lib.hid (show RetF w (.agg #[I x, I y]) (.returned (.agg #[I x, I y])) _ from ⟨rfl, hF.out⟩)
 go_wp2_with fail
 refine bodyPost_ret (v := .agg #[I x, I y]) (by simp [results, Tryz.results158, go_sem, r0, r1]) rfl Hres.out
def denN : Nat → Int
 | 0 => 1
 | 1 => 2
 | 2 => 3
 | 3 => 4
 | 4 => 6
 | _ => 12
def frQ (a b : Int) : Rat := ((a.tmod 41 : Int) : Rat) / ((denN (b.tmod 6).toNat : Int) : Rat)
set_option maxHeartbeats 2000000 in
theorem fr13_0 {a b k x y : Int} (hka : a.tmod 41 = k) (hk : -40 ≤ k ∧ k ≤ 40) (hjb : b.tmod 6 = 0) {w : World}
  (hp : ∀ W, Ext w W → Calls Tryz.prog 158 #[.int .i64 k, .int .i64 1] W fun e w' => e = .returned (.agg #[I x, I y]) ∧ Ext W w') :
  Calls Tryz.prog 97 #[.agg #[.int .i8 a, .int .u8 b]] w fun e w' => e = .returned (.agg #[I x, I y]) ∧ Ext w w' := by
 have Hp := Lib.hid hp
 have eX := ((Ext.refl w).alloc (.cells #[.int .i8 a, .int .u8 b] 53)).alloc (.cells #[.string ⟨#[]⟩, .string ⟨#[]⟩] 81)
 have p0 : ((w.alloc (.cells #[.int .i8 a, .int .u8 b] 53)).alloc (.cells #[.string ⟨#[]⟩, .string ⟨#[]⟩] 81)).cell? ⟨w.heap.size, 0, none⟩ = some (.int .i8 a) := by go_simp
 have p1 : ((w.alloc (.cells #[.int .i8 a, .int .u8 b] 53)).alloc (.cells #[.string ⟨#[]⟩, .string ⟨#[]⟩] 81)).cell? ⟨w.heap.size, 1, none⟩ = some (.int .u8 b) := by go_simp
 have hO0 := two_alloc (w.alloc (.cells #[.int .i8 a, .int .u8 b] 53)) 81 (.string ⟨#[]⟩) (.string ⟨#[]⟩)
 rw [show (w.alloc (.cells #[.int .i8 a, .int .u8 b] 53)).heap.size = w.heap.size + 1 by simp] at hO0
 have HO := Lib.hid (OwnV.mono hO0 (show w.heap.size ≤ w.heap.size + 1 by omega))
 clear hO0
 clear hp
 go_enter Tryz.func97, Tryz.ntmps97
 go_wp2_with fail
 generalize hX0 : (w.alloc (.cells #[.int .i8 a, .int .u8 b] 53)).alloc (.cells #[.string ⟨#[]⟩, .string ⟨#[]⟩] 81) = X at *
 clear hX0
 have dd : Ext X X.drew := (Ext.refl X).drew
 refine wp_region_held_tail (S := fun W => Ext X W) 11 (by kernel_rfl) (by simp) ?_
 intro inv
 refine wpAnyLH_take (i := 0) (v := .pointer (some ⟨w.heap.size, 0, none⟩)) rfl (by kernel_rfl) (fun _ _ _ h => h) (.inl ⟨by rfl, fun W hW => by have q0 := hW.cell p0; have q1 := hW.cell p1; go_simp⟩) dd inv ?_
 intro inv
 go_simp
 refine wpAnyLH_take (i := 1) (v := .int .i8 a) rfl (by kernel_rfl) (fun _ _ _ h => h) (.inl ⟨by rfl, fun W hW => by have q0 := hW.cell p0; have q1 := hW.cell p1; go_simp⟩) dd inv ?_
 intro inv
 go_simp
 refine wpAnyLH_take (i := 2) (v := .int .i8 k) rfl (by kernel_rfl) (fun _ _ _ h => h) (.inl ⟨by rfl, fun W hW => by have q0 := hW.cell p0; have q1 := hW.cell p1; go_simp⟩) dd inv ?_
 intro inv
 go_simp
 refine wpAnyLH_take (i := 3) (v := .int .i64 k) rfl (by kernel_rfl) (fun _ _ _ h => h) (.inl ⟨by rfl, fun W hW => by have q0 := hW.cell p0; have q1 := hW.cell p1; go_simp; rw [IntKind.wrap_i64]; omega⟩) dd inv ?_
 intro inv
 go_simp
 refine wpAnyLH_take (i := 5) (v := .pointer (some ⟨w.heap.size, 1, none⟩)) rfl (by kernel_rfl) (fun _ _ _ h => h) (.inl ⟨by rfl, fun W hW => by have q0 := hW.cell p0; have q1 := hW.cell p1; go_simp⟩) dd inv ?_
 intro inv
 go_simp
 refine wpAnyLH_take (i := 6) (v := .int .u8 b) rfl (by kernel_rfl) (fun _ _ _ h => h) (.inl ⟨by rfl, fun W hW => by have q0 := hW.cell p0; have q1 := hW.cell p1; go_simp⟩) dd inv ?_
 intro inv
 go_simp
 refine wpAnyLH_take (i := 7) (v := .int .u8 0) rfl (by kernel_rfl) (fun _ _ _ h => h) (.inl ⟨by rfl, fun W hW => by have q0 := hW.cell p0; have q1 := hW.cell p1; go_simp⟩) dd inv ?_
 intro inv
 go_simp
 refine wpAnyLH_oneI (i := 4) rfl (by kernel_rfl) inv (fun inv K0 hK0 => ?_)
 go_simp
 have d1 : Ext X ((X.alloc (.cells #[.int .i64 1, .int .i64 2, .int .i64 3, .int .i64 4, .int .i64 6, .int .i64 12] 3)).drew) := ((Ext.refl X).alloc _).drew
 have s0 : ((X.alloc (.cells #[.int .i64 1, .int .i64 2, .int .i64 3, .int .i64 4, .int .i64 6, .int .i64 12] 3)).drew).cell? ⟨X.heap.size, 0, none⟩ = some (.int .i64 1) := by go_simp
 refine hK0 _ _ d1 ?_
 clear hK0
 generalize ((X.alloc (.cells #[.int .i64 1, .int .i64 2, .int .i64 3, .int .i64 4, .int .i64 6, .int .i64 12] 3)).drew) = Y at *
 refine wpAnyLH_oneI (i := 8) rfl (by kernel_rfl) inv (fun inv K1 hK1 => ?_)
 go_simp
 refine hK1 _ _ d1 ?_
 clear hK1
 refine wpAnyLH_oneI (i := 9) rfl (by kernel_rfl) inv (fun inv K2 hK2 => ?_)
 go_simp
 refine hK2 _ _ d1 ?_
 clear hK2
 refine wpAnyLH_oneI (i := 10) rfl (by kernel_rfl) inv (fun inv K3 hK3 => ?_)
 go_simp
 refine (Hp.out _ (eX.trans d1)).mono ?_
 rintro e W1 ⟨rfl, hG1⟩
 have d2 := d1.trans hG1
 refine hK3 _ _ d2 ?_
 clear hK3
 refine wpAnyLH_end (by kernel_rfl) ?_
 have hO2 := HO.out.ext d2
 obtain ⟨q0, q1, f0, f1, r0, r1, hF⟩ := two_end (eX.trans d2) (by omega) hO2 (I x) (I y)
 have Hres := Lib.hid (show RetF w (.agg #[I x, I y]) (.returned (.agg #[I x, I y])) _ from ⟨rfl, hF.out⟩)
 clear inv p0 p1 dd d1 d2 hG1 s0 hO2
 go_wp2_with fail
 refine bodyPost_ret (v := .agg #[I x, I y]) (by simp [results, Tryz.results97, go_sem, r0, r1]) rfl Hres.out
set_option maxHeartbeats 2000000 in
theorem fr13_1 {a b k x y : Int} (hka : a.tmod 41 = k) (hk : -40 ≤ k ∧ k ≤ 40) (hjb : b.tmod 6 = 1) {w : World}
  (hp : ∀ W, Ext w W → Calls Tryz.prog 158 #[.int .i64 k, .int .i64 2] W fun e w' => e = .returned (.agg #[I x, I y]) ∧ Ext W w') :
  Calls Tryz.prog 97 #[.agg #[.int .i8 a, .int .u8 b]] w fun e w' => e = .returned (.agg #[I x, I y]) ∧ Ext w w' := by
 have Hp := Lib.hid hp
 have eX := ((Ext.refl w).alloc (.cells #[.int .i8 a, .int .u8 b] 53)).alloc (.cells #[.string ⟨#[]⟩, .string ⟨#[]⟩] 81)
 have p0 : ((w.alloc (.cells #[.int .i8 a, .int .u8 b] 53)).alloc (.cells #[.string ⟨#[]⟩, .string ⟨#[]⟩] 81)).cell? ⟨w.heap.size, 0, none⟩ = some (.int .i8 a) := by go_simp
 have p1 : ((w.alloc (.cells #[.int .i8 a, .int .u8 b] 53)).alloc (.cells #[.string ⟨#[]⟩, .string ⟨#[]⟩] 81)).cell? ⟨w.heap.size, 1, none⟩ = some (.int .u8 b) := by go_simp
 have hO0 := two_alloc (w.alloc (.cells #[.int .i8 a, .int .u8 b] 53)) 81 (.string ⟨#[]⟩) (.string ⟨#[]⟩)
 rw [show (w.alloc (.cells #[.int .i8 a, .int .u8 b] 53)).heap.size = w.heap.size + 1 by simp] at hO0
 have HO := Lib.hid (OwnV.mono hO0 (show w.heap.size ≤ w.heap.size + 1 by omega))
 clear hO0
 clear hp
 go_enter Tryz.func97, Tryz.ntmps97
 go_wp2_with fail
 generalize hX0 : (w.alloc (.cells #[.int .i8 a, .int .u8 b] 53)).alloc (.cells #[.string ⟨#[]⟩, .string ⟨#[]⟩] 81) = X at *
 clear hX0
 have dd : Ext X X.drew := (Ext.refl X).drew
 refine wp_region_held_tail (S := fun W => Ext X W) 11 (by kernel_rfl) (by simp) ?_
 intro inv
 refine wpAnyLH_take (i := 0) (v := .pointer (some ⟨w.heap.size, 0, none⟩)) rfl (by kernel_rfl) (fun _ _ _ h => h) (.inl ⟨by rfl, fun W hW => by have q0 := hW.cell p0; have q1 := hW.cell p1; go_simp⟩) dd inv ?_
 intro inv
 go_simp
 refine wpAnyLH_take (i := 1) (v := .int .i8 a) rfl (by kernel_rfl) (fun _ _ _ h => h) (.inl ⟨by rfl, fun W hW => by have q0 := hW.cell p0; have q1 := hW.cell p1; go_simp⟩) dd inv ?_
 intro inv
 go_simp
 refine wpAnyLH_take (i := 2) (v := .int .i8 k) rfl (by kernel_rfl) (fun _ _ _ h => h) (.inl ⟨by rfl, fun W hW => by have q0 := hW.cell p0; have q1 := hW.cell p1; go_simp⟩) dd inv ?_
 intro inv
 go_simp
 refine wpAnyLH_take (i := 3) (v := .int .i64 k) rfl (by kernel_rfl) (fun _ _ _ h => h) (.inl ⟨by rfl, fun W hW => by have q0 := hW.cell p0; have q1 := hW.cell p1; go_simp; rw [IntKind.wrap_i64]; omega⟩) dd inv ?_
 intro inv
 go_simp
 refine wpAnyLH_take (i := 5) (v := .pointer (some ⟨w.heap.size, 1, none⟩)) rfl (by kernel_rfl) (fun _ _ _ h => h) (.inl ⟨by rfl, fun W hW => by have q0 := hW.cell p0; have q1 := hW.cell p1; go_simp⟩) dd inv ?_
 intro inv
 go_simp
 refine wpAnyLH_take (i := 6) (v := .int .u8 b) rfl (by kernel_rfl) (fun _ _ _ h => h) (.inl ⟨by rfl, fun W hW => by have q0 := hW.cell p0; have q1 := hW.cell p1; go_simp⟩) dd inv ?_
 intro inv
 go_simp
 refine wpAnyLH_take (i := 7) (v := .int .u8 1) rfl (by kernel_rfl) (fun _ _ _ h => h) (.inl ⟨by rfl, fun W hW => by have q0 := hW.cell p0; have q1 := hW.cell p1; go_simp⟩) dd inv ?_
 intro inv
 go_simp
 refine wpAnyLH_oneI (i := 4) rfl (by kernel_rfl) inv (fun inv K0 hK0 => ?_)
 go_simp
 have d1 : Ext X ((X.alloc (.cells #[.int .i64 1, .int .i64 2, .int .i64 3, .int .i64 4, .int .i64 6, .int .i64 12] 3)).drew) := ((Ext.refl X).alloc _).drew
 have s0 : ((X.alloc (.cells #[.int .i64 1, .int .i64 2, .int .i64 3, .int .i64 4, .int .i64 6, .int .i64 12] 3)).drew).cell? ⟨X.heap.size, 1, none⟩ = some (.int .i64 2) := by go_simp
 refine hK0 _ _ d1 ?_
 clear hK0
 generalize ((X.alloc (.cells #[.int .i64 1, .int .i64 2, .int .i64 3, .int .i64 4, .int .i64 6, .int .i64 12] 3)).drew) = Y at *
 refine wpAnyLH_oneI (i := 8) rfl (by kernel_rfl) inv (fun inv K1 hK1 => ?_)
 go_simp
 refine hK1 _ _ d1 ?_
 clear hK1
 refine wpAnyLH_oneI (i := 9) rfl (by kernel_rfl) inv (fun inv K2 hK2 => ?_)
 go_simp
 refine hK2 _ _ d1 ?_
 clear hK2
 refine wpAnyLH_oneI (i := 10) rfl (by kernel_rfl) inv (fun inv K3 hK3 => ?_)
 go_simp
 refine (Hp.out _ (eX.trans d1)).mono ?_
 rintro e W1 ⟨rfl, hG1⟩
 have d2 := d1.trans hG1
 refine hK3 _ _ d2 ?_
 clear hK3
 refine wpAnyLH_end (by kernel_rfl) ?_
 have hO2 := HO.out.ext d2
 obtain ⟨q0, q1, f0, f1, r0, r1, hF⟩ := two_end (eX.trans d2) (by omega) hO2 (I x) (I y)
 have Hres := Lib.hid (show RetF w (.agg #[I x, I y]) (.returned (.agg #[I x, I y])) _ from ⟨rfl, hF.out⟩)
 clear inv p0 p1 dd d1 d2 hG1 s0 hO2
 go_wp2_with fail
 refine bodyPost_ret (v := .agg #[I x, I y]) (by simp [results, Tryz.results97, go_sem, r0, r1]) rfl Hres.out
set_option maxHeartbeats 2000000 in
theorem fr13_2 {a b k x y : Int} (hka : a.tmod 41 = k) (hk : -40 ≤ k ∧ k ≤ 40) (hjb : b.tmod 6 = 2) {w : World}
  (hp : ∀ W, Ext w W → Calls Tryz.prog 158 #[.int .i64 k, .int .i64 3] W fun e w' => e = .returned (.agg #[I x, I y]) ∧ Ext W w') :
  Calls Tryz.prog 97 #[.agg #[.int .i8 a, .int .u8 b]] w fun e w' => e = .returned (.agg #[I x, I y]) ∧ Ext w w' := by
 have Hp := Lib.hid hp
 have eX := ((Ext.refl w).alloc (.cells #[.int .i8 a, .int .u8 b] 53)).alloc (.cells #[.string ⟨#[]⟩, .string ⟨#[]⟩] 81)
 have p0 : ((w.alloc (.cells #[.int .i8 a, .int .u8 b] 53)).alloc (.cells #[.string ⟨#[]⟩, .string ⟨#[]⟩] 81)).cell? ⟨w.heap.size, 0, none⟩ = some (.int .i8 a) := by go_simp
 have p1 : ((w.alloc (.cells #[.int .i8 a, .int .u8 b] 53)).alloc (.cells #[.string ⟨#[]⟩, .string ⟨#[]⟩] 81)).cell? ⟨w.heap.size, 1, none⟩ = some (.int .u8 b) := by go_simp
 have hO0 := two_alloc (w.alloc (.cells #[.int .i8 a, .int .u8 b] 53)) 81 (.string ⟨#[]⟩) (.string ⟨#[]⟩)
 rw [show (w.alloc (.cells #[.int .i8 a, .int .u8 b] 53)).heap.size = w.heap.size + 1 by simp] at hO0
 have HO := Lib.hid (OwnV.mono hO0 (show w.heap.size ≤ w.heap.size + 1 by omega))
 clear hO0
 clear hp
 go_enter Tryz.func97, Tryz.ntmps97
 go_wp2_with fail
 generalize hX0 : (w.alloc (.cells #[.int .i8 a, .int .u8 b] 53)).alloc (.cells #[.string ⟨#[]⟩, .string ⟨#[]⟩] 81) = X at *
 clear hX0
 have dd : Ext X X.drew := (Ext.refl X).drew
 refine wp_region_held_tail (S := fun W => Ext X W) 11 (by kernel_rfl) (by simp) ?_
 intro inv
 refine wpAnyLH_take (i := 0) (v := .pointer (some ⟨w.heap.size, 0, none⟩)) rfl (by kernel_rfl) (fun _ _ _ h => h) (.inl ⟨by rfl, fun W hW => by have q0 := hW.cell p0; have q1 := hW.cell p1; go_simp⟩) dd inv ?_
 intro inv
 go_simp
 refine wpAnyLH_take (i := 1) (v := .int .i8 a) rfl (by kernel_rfl) (fun _ _ _ h => h) (.inl ⟨by rfl, fun W hW => by have q0 := hW.cell p0; have q1 := hW.cell p1; go_simp⟩) dd inv ?_
 intro inv
 go_simp
 refine wpAnyLH_take (i := 2) (v := .int .i8 k) rfl (by kernel_rfl) (fun _ _ _ h => h) (.inl ⟨by rfl, fun W hW => by have q0 := hW.cell p0; have q1 := hW.cell p1; go_simp⟩) dd inv ?_
 intro inv
 go_simp
 refine wpAnyLH_take (i := 3) (v := .int .i64 k) rfl (by kernel_rfl) (fun _ _ _ h => h) (.inl ⟨by rfl, fun W hW => by have q0 := hW.cell p0; have q1 := hW.cell p1; go_simp; rw [IntKind.wrap_i64]; omega⟩) dd inv ?_
 intro inv
 go_simp
 refine wpAnyLH_take (i := 5) (v := .pointer (some ⟨w.heap.size, 1, none⟩)) rfl (by kernel_rfl) (fun _ _ _ h => h) (.inl ⟨by rfl, fun W hW => by have q0 := hW.cell p0; have q1 := hW.cell p1; go_simp⟩) dd inv ?_
 intro inv
 go_simp
 refine wpAnyLH_take (i := 6) (v := .int .u8 b) rfl (by kernel_rfl) (fun _ _ _ h => h) (.inl ⟨by rfl, fun W hW => by have q0 := hW.cell p0; have q1 := hW.cell p1; go_simp⟩) dd inv ?_
 intro inv
 go_simp
 refine wpAnyLH_take (i := 7) (v := .int .u8 2) rfl (by kernel_rfl) (fun _ _ _ h => h) (.inl ⟨by rfl, fun W hW => by have q0 := hW.cell p0; have q1 := hW.cell p1; go_simp⟩) dd inv ?_
 intro inv
 go_simp
 refine wpAnyLH_oneI (i := 4) rfl (by kernel_rfl) inv (fun inv K0 hK0 => ?_)
 go_simp
 have d1 : Ext X ((X.alloc (.cells #[.int .i64 1, .int .i64 2, .int .i64 3, .int .i64 4, .int .i64 6, .int .i64 12] 3)).drew) := ((Ext.refl X).alloc _).drew
 have s0 : ((X.alloc (.cells #[.int .i64 1, .int .i64 2, .int .i64 3, .int .i64 4, .int .i64 6, .int .i64 12] 3)).drew).cell? ⟨X.heap.size, 2, none⟩ = some (.int .i64 3) := by go_simp
 refine hK0 _ _ d1 ?_
 clear hK0
 generalize ((X.alloc (.cells #[.int .i64 1, .int .i64 2, .int .i64 3, .int .i64 4, .int .i64 6, .int .i64 12] 3)).drew) = Y at *
 refine wpAnyLH_oneI (i := 8) rfl (by kernel_rfl) inv (fun inv K1 hK1 => ?_)
 go_simp
 refine hK1 _ _ d1 ?_
 clear hK1
 refine wpAnyLH_oneI (i := 9) rfl (by kernel_rfl) inv (fun inv K2 hK2 => ?_)
 go_simp
 refine hK2 _ _ d1 ?_
 clear hK2
 refine wpAnyLH_oneI (i := 10) rfl (by kernel_rfl) inv (fun inv K3 hK3 => ?_)
 go_simp
 refine (Hp.out _ (eX.trans d1)).mono ?_
 rintro e W1 ⟨rfl, hG1⟩
 have d2 := d1.trans hG1
 refine hK3 _ _ d2 ?_
 clear hK3
 refine wpAnyLH_end (by kernel_rfl) ?_
 have hO2 := HO.out.ext d2
 obtain ⟨q0, q1, f0, f1, r0, r1, hF⟩ := two_end (eX.trans d2) (by omega) hO2 (I x) (I y)
 have Hres := Lib.hid (show RetF w (.agg #[I x, I y]) (.returned (.agg #[I x, I y])) _ from ⟨rfl, hF.out⟩)
 clear inv p0 p1 dd d1 d2 hG1 s0 hO2
 go_wp2_with fail
 refine bodyPost_ret (v := .agg #[I x, I y]) (by simp [results, Tryz.results97, go_sem, r0, r1]) rfl Hres.out
set_option maxHeartbeats 2000000 in
theorem fr13_3 {a b k x y : Int} (hka : a.tmod 41 = k) (hk : -40 ≤ k ∧ k ≤ 40) (hjb : b.tmod 6 = 3) {w : World}
  (hp : ∀ W, Ext w W → Calls Tryz.prog 158 #[.int .i64 k, .int .i64 4] W fun e w' => e = .returned (.agg #[I x, I y]) ∧ Ext W w') :
  Calls Tryz.prog 97 #[.agg #[.int .i8 a, .int .u8 b]] w fun e w' => e = .returned (.agg #[I x, I y]) ∧ Ext w w' := by
 have Hp := Lib.hid hp
 have eX := ((Ext.refl w).alloc (.cells #[.int .i8 a, .int .u8 b] 53)).alloc (.cells #[.string ⟨#[]⟩, .string ⟨#[]⟩] 81)
 have p0 : ((w.alloc (.cells #[.int .i8 a, .int .u8 b] 53)).alloc (.cells #[.string ⟨#[]⟩, .string ⟨#[]⟩] 81)).cell? ⟨w.heap.size, 0, none⟩ = some (.int .i8 a) := by go_simp
 have p1 : ((w.alloc (.cells #[.int .i8 a, .int .u8 b] 53)).alloc (.cells #[.string ⟨#[]⟩, .string ⟨#[]⟩] 81)).cell? ⟨w.heap.size, 1, none⟩ = some (.int .u8 b) := by go_simp
 have hO0 := two_alloc (w.alloc (.cells #[.int .i8 a, .int .u8 b] 53)) 81 (.string ⟨#[]⟩) (.string ⟨#[]⟩)
 rw [show (w.alloc (.cells #[.int .i8 a, .int .u8 b] 53)).heap.size = w.heap.size + 1 by simp] at hO0
 have HO := Lib.hid (OwnV.mono hO0 (show w.heap.size ≤ w.heap.size + 1 by omega))
 clear hO0
 clear hp
 go_enter Tryz.func97, Tryz.ntmps97
 go_wp2_with fail
 generalize hX0 : (w.alloc (.cells #[.int .i8 a, .int .u8 b] 53)).alloc (.cells #[.string ⟨#[]⟩, .string ⟨#[]⟩] 81) = X at *
 clear hX0
 have dd : Ext X X.drew := (Ext.refl X).drew
 refine wp_region_held_tail (S := fun W => Ext X W) 11 (by kernel_rfl) (by simp) ?_
 intro inv
 refine wpAnyLH_take (i := 0) (v := .pointer (some ⟨w.heap.size, 0, none⟩)) rfl (by kernel_rfl) (fun _ _ _ h => h) (.inl ⟨by rfl, fun W hW => by have q0 := hW.cell p0; have q1 := hW.cell p1; go_simp⟩) dd inv ?_
 intro inv
 go_simp
 refine wpAnyLH_take (i := 1) (v := .int .i8 a) rfl (by kernel_rfl) (fun _ _ _ h => h) (.inl ⟨by rfl, fun W hW => by have q0 := hW.cell p0; have q1 := hW.cell p1; go_simp⟩) dd inv ?_
 intro inv
 go_simp
 refine wpAnyLH_take (i := 2) (v := .int .i8 k) rfl (by kernel_rfl) (fun _ _ _ h => h) (.inl ⟨by rfl, fun W hW => by have q0 := hW.cell p0; have q1 := hW.cell p1; go_simp⟩) dd inv ?_
 intro inv
 go_simp
 refine wpAnyLH_take (i := 3) (v := .int .i64 k) rfl (by kernel_rfl) (fun _ _ _ h => h) (.inl ⟨by rfl, fun W hW => by have q0 := hW.cell p0; have q1 := hW.cell p1; go_simp; rw [IntKind.wrap_i64]; omega⟩) dd inv ?_
 intro inv
 go_simp
 refine wpAnyLH_take (i := 5) (v := .pointer (some ⟨w.heap.size, 1, none⟩)) rfl (by kernel_rfl) (fun _ _ _ h => h) (.inl ⟨by rfl, fun W hW => by have q0 := hW.cell p0; have q1 := hW.cell p1; go_simp⟩) dd inv ?_
 intro inv
 go_simp
 refine wpAnyLH_take (i := 6) (v := .int .u8 b) rfl (by kernel_rfl) (fun _ _ _ h => h) (.inl ⟨by rfl, fun W hW => by have q0 := hW.cell p0; have q1 := hW.cell p1; go_simp⟩) dd inv ?_
 intro inv
 go_simp
 refine wpAnyLH_take (i := 7) (v := .int .u8 3) rfl (by kernel_rfl) (fun _ _ _ h => h) (.inl ⟨by rfl, fun W hW => by have q0 := hW.cell p0; have q1 := hW.cell p1; go_simp⟩) dd inv ?_
 intro inv
 go_simp
 refine wpAnyLH_oneI (i := 4) rfl (by kernel_rfl) inv (fun inv K0 hK0 => ?_)
 go_simp
 have d1 : Ext X ((X.alloc (.cells #[.int .i64 1, .int .i64 2, .int .i64 3, .int .i64 4, .int .i64 6, .int .i64 12] 3)).drew) := ((Ext.refl X).alloc _).drew
 have s0 : ((X.alloc (.cells #[.int .i64 1, .int .i64 2, .int .i64 3, .int .i64 4, .int .i64 6, .int .i64 12] 3)).drew).cell? ⟨X.heap.size, 3, none⟩ = some (.int .i64 4) := by go_simp
 refine hK0 _ _ d1 ?_
 clear hK0
 generalize ((X.alloc (.cells #[.int .i64 1, .int .i64 2, .int .i64 3, .int .i64 4, .int .i64 6, .int .i64 12] 3)).drew) = Y at *
 refine wpAnyLH_oneI (i := 8) rfl (by kernel_rfl) inv (fun inv K1 hK1 => ?_)
 go_simp
 refine hK1 _ _ d1 ?_
 clear hK1
 refine wpAnyLH_oneI (i := 9) rfl (by kernel_rfl) inv (fun inv K2 hK2 => ?_)
 go_simp
 refine hK2 _ _ d1 ?_
 clear hK2
 refine wpAnyLH_oneI (i := 10) rfl (by kernel_rfl) inv (fun inv K3 hK3 => ?_)
 go_simp
 refine (Hp.out _ (eX.trans d1)).mono ?_
 rintro e W1 ⟨rfl, hG1⟩
 have d2 := d1.trans hG1
 refine hK3 _ _ d2 ?_
 clear hK3
 refine wpAnyLH_end (by kernel_rfl) ?_
 have hO2 := HO.out.ext d2
 obtain ⟨q0, q1, f0, f1, r0, r1, hF⟩ := two_end (eX.trans d2) (by omega) hO2 (I x) (I y)
 have Hres := Lib.hid (show RetF w (.agg #[I x, I y]) (.returned (.agg #[I x, I y])) _ from ⟨rfl, hF.out⟩)
 clear inv p0 p1 dd d1 d2 hG1 s0 hO2
 go_wp2_with fail
 refine bodyPost_ret (v := .agg #[I x, I y]) (by simp [results, Tryz.results97, go_sem, r0, r1]) rfl Hres.out
set_option maxHeartbeats 2000000 in
theorem fr13_4 {a b k x y : Int} (hka : a.tmod 41 = k) (hk : -40 ≤ k ∧ k ≤ 40) (hjb : b.tmod 6 = 4) {w : World}
  (hp : ∀ W, Ext w W → Calls Tryz.prog 158 #[.int .i64 k, .int .i64 6] W fun e w' => e = .returned (.agg #[I x, I y]) ∧ Ext W w') :
  Calls Tryz.prog 97 #[.agg #[.int .i8 a, .int .u8 b]] w fun e w' => e = .returned (.agg #[I x, I y]) ∧ Ext w w' := by
 have Hp := Lib.hid hp
 have eX := ((Ext.refl w).alloc (.cells #[.int .i8 a, .int .u8 b] 53)).alloc (.cells #[.string ⟨#[]⟩, .string ⟨#[]⟩] 81)
 have p0 : ((w.alloc (.cells #[.int .i8 a, .int .u8 b] 53)).alloc (.cells #[.string ⟨#[]⟩, .string ⟨#[]⟩] 81)).cell? ⟨w.heap.size, 0, none⟩ = some (.int .i8 a) := by go_simp
 have p1 : ((w.alloc (.cells #[.int .i8 a, .int .u8 b] 53)).alloc (.cells #[.string ⟨#[]⟩, .string ⟨#[]⟩] 81)).cell? ⟨w.heap.size, 1, none⟩ = some (.int .u8 b) := by go_simp
 have hO0 := two_alloc (w.alloc (.cells #[.int .i8 a, .int .u8 b] 53)) 81 (.string ⟨#[]⟩) (.string ⟨#[]⟩)
 rw [show (w.alloc (.cells #[.int .i8 a, .int .u8 b] 53)).heap.size = w.heap.size + 1 by simp] at hO0
 have HO := Lib.hid (OwnV.mono hO0 (show w.heap.size ≤ w.heap.size + 1 by omega))
 clear hO0
 clear hp
 go_enter Tryz.func97, Tryz.ntmps97
 go_wp2_with fail
 generalize hX0 : (w.alloc (.cells #[.int .i8 a, .int .u8 b] 53)).alloc (.cells #[.string ⟨#[]⟩, .string ⟨#[]⟩] 81) = X at *
 clear hX0
 have dd : Ext X X.drew := (Ext.refl X).drew
 refine wp_region_held_tail (S := fun W => Ext X W) 11 (by kernel_rfl) (by simp) ?_
 intro inv
 refine wpAnyLH_take (i := 0) (v := .pointer (some ⟨w.heap.size, 0, none⟩)) rfl (by kernel_rfl) (fun _ _ _ h => h) (.inl ⟨by rfl, fun W hW => by have q0 := hW.cell p0; have q1 := hW.cell p1; go_simp⟩) dd inv ?_
 intro inv
 go_simp
 refine wpAnyLH_take (i := 1) (v := .int .i8 a) rfl (by kernel_rfl) (fun _ _ _ h => h) (.inl ⟨by rfl, fun W hW => by have q0 := hW.cell p0; have q1 := hW.cell p1; go_simp⟩) dd inv ?_
 intro inv
 go_simp
 refine wpAnyLH_take (i := 2) (v := .int .i8 k) rfl (by kernel_rfl) (fun _ _ _ h => h) (.inl ⟨by rfl, fun W hW => by have q0 := hW.cell p0; have q1 := hW.cell p1; go_simp⟩) dd inv ?_
 intro inv
 go_simp
 refine wpAnyLH_take (i := 3) (v := .int .i64 k) rfl (by kernel_rfl) (fun _ _ _ h => h) (.inl ⟨by rfl, fun W hW => by have q0 := hW.cell p0; have q1 := hW.cell p1; go_simp; rw [IntKind.wrap_i64]; omega⟩) dd inv ?_
 intro inv
 go_simp
 refine wpAnyLH_take (i := 5) (v := .pointer (some ⟨w.heap.size, 1, none⟩)) rfl (by kernel_rfl) (fun _ _ _ h => h) (.inl ⟨by rfl, fun W hW => by have q0 := hW.cell p0; have q1 := hW.cell p1; go_simp⟩) dd inv ?_
 intro inv
 go_simp
 refine wpAnyLH_take (i := 6) (v := .int .u8 b) rfl (by kernel_rfl) (fun _ _ _ h => h) (.inl ⟨by rfl, fun W hW => by have q0 := hW.cell p0; have q1 := hW.cell p1; go_simp⟩) dd inv ?_
 intro inv
 go_simp
 refine wpAnyLH_take (i := 7) (v := .int .u8 4) rfl (by kernel_rfl) (fun _ _ _ h => h) (.inl ⟨by rfl, fun W hW => by have q0 := hW.cell p0; have q1 := hW.cell p1; go_simp⟩) dd inv ?_
 intro inv
 go_simp
 refine wpAnyLH_oneI (i := 4) rfl (by kernel_rfl) inv (fun inv K0 hK0 => ?_)
 go_simp
 have d1 : Ext X ((X.alloc (.cells #[.int .i64 1, .int .i64 2, .int .i64 3, .int .i64 4, .int .i64 6, .int .i64 12] 3)).drew) := ((Ext.refl X).alloc _).drew
 have s0 : ((X.alloc (.cells #[.int .i64 1, .int .i64 2, .int .i64 3, .int .i64 4, .int .i64 6, .int .i64 12] 3)).drew).cell? ⟨X.heap.size, 4, none⟩ = some (.int .i64 6) := by go_simp
 refine hK0 _ _ d1 ?_
 clear hK0
 generalize ((X.alloc (.cells #[.int .i64 1, .int .i64 2, .int .i64 3, .int .i64 4, .int .i64 6, .int .i64 12] 3)).drew) = Y at *
 refine wpAnyLH_oneI (i := 8) rfl (by kernel_rfl) inv (fun inv K1 hK1 => ?_)
 go_simp
 refine hK1 _ _ d1 ?_
 clear hK1
 refine wpAnyLH_oneI (i := 9) rfl (by kernel_rfl) inv (fun inv K2 hK2 => ?_)
 go_simp
 refine hK2 _ _ d1 ?_
 clear hK2
 refine wpAnyLH_oneI (i := 10) rfl (by kernel_rfl) inv (fun inv K3 hK3 => ?_)
 go_simp
 refine (Hp.out _ (eX.trans d1)).mono ?_
 rintro e W1 ⟨rfl, hG1⟩
 have d2 := d1.trans hG1
 refine hK3 _ _ d2 ?_
 clear hK3
 refine wpAnyLH_end (by kernel_rfl) ?_
 have hO2 := HO.out.ext d2
 obtain ⟨q0, q1, f0, f1, r0, r1, hF⟩ := two_end (eX.trans d2) (by omega) hO2 (I x) (I y)
 have Hres := Lib.hid (show RetF w (.agg #[I x, I y]) (.returned (.agg #[I x, I y])) _ from ⟨rfl, hF.out⟩)
 clear inv p0 p1 dd d1 d2 hG1 s0 hO2
 go_wp2_with fail
 refine bodyPost_ret (v := .agg #[I x, I y]) (by simp [results, Tryz.results97, go_sem, r0, r1]) rfl Hres.out
set_option maxHeartbeats 2000000 in
theorem fr13_5 {a b k x y : Int} (hka : a.tmod 41 = k) (hk : -40 ≤ k ∧ k ≤ 40) (hjb : b.tmod 6 = 5) {w : World}
  (hp : ∀ W, Ext w W → Calls Tryz.prog 158 #[.int .i64 k, .int .i64 12] W fun e w' => e = .returned (.agg #[I x, I y]) ∧ Ext W w') :
  Calls Tryz.prog 97 #[.agg #[.int .i8 a, .int .u8 b]] w fun e w' => e = .returned (.agg #[I x, I y]) ∧ Ext w w' := by
 have Hp := Lib.hid hp
 have eX := ((Ext.refl w).alloc (.cells #[.int .i8 a, .int .u8 b] 53)).alloc (.cells #[.string ⟨#[]⟩, .string ⟨#[]⟩] 81)
 have p0 : ((w.alloc (.cells #[.int .i8 a, .int .u8 b] 53)).alloc (.cells #[.string ⟨#[]⟩, .string ⟨#[]⟩] 81)).cell? ⟨w.heap.size, 0, none⟩ = some (.int .i8 a) := by go_simp
 have p1 : ((w.alloc (.cells #[.int .i8 a, .int .u8 b] 53)).alloc (.cells #[.string ⟨#[]⟩, .string ⟨#[]⟩] 81)).cell? ⟨w.heap.size, 1, none⟩ = some (.int .u8 b) := by go_simp
 have hO0 := two_alloc (w.alloc (.cells #[.int .i8 a, .int .u8 b] 53)) 81 (.string ⟨#[]⟩) (.string ⟨#[]⟩)
 rw [show (w.alloc (.cells #[.int .i8 a, .int .u8 b] 53)).heap.size = w.heap.size + 1 by simp] at hO0
 have HO := Lib.hid (OwnV.mono hO0 (show w.heap.size ≤ w.heap.size + 1 by omega))
 clear hO0
 clear hp
 go_enter Tryz.func97, Tryz.ntmps97
 go_wp2_with fail
 generalize hX0 : (w.alloc (.cells #[.int .i8 a, .int .u8 b] 53)).alloc (.cells #[.string ⟨#[]⟩, .string ⟨#[]⟩] 81) = X at *
 clear hX0
 have dd : Ext X X.drew := (Ext.refl X).drew
 refine wp_region_held_tail (S := fun W => Ext X W) 11 (by kernel_rfl) (by simp) ?_
 intro inv
 refine wpAnyLH_take (i := 0) (v := .pointer (some ⟨w.heap.size, 0, none⟩)) rfl (by kernel_rfl) (fun _ _ _ h => h) (.inl ⟨by rfl, fun W hW => by have q0 := hW.cell p0; have q1 := hW.cell p1; go_simp⟩) dd inv ?_
 intro inv
 go_simp
 refine wpAnyLH_take (i := 1) (v := .int .i8 a) rfl (by kernel_rfl) (fun _ _ _ h => h) (.inl ⟨by rfl, fun W hW => by have q0 := hW.cell p0; have q1 := hW.cell p1; go_simp⟩) dd inv ?_
 intro inv
 go_simp
 refine wpAnyLH_take (i := 2) (v := .int .i8 k) rfl (by kernel_rfl) (fun _ _ _ h => h) (.inl ⟨by rfl, fun W hW => by have q0 := hW.cell p0; have q1 := hW.cell p1; go_simp⟩) dd inv ?_
 intro inv
 go_simp
 refine wpAnyLH_take (i := 3) (v := .int .i64 k) rfl (by kernel_rfl) (fun _ _ _ h => h) (.inl ⟨by rfl, fun W hW => by have q0 := hW.cell p0; have q1 := hW.cell p1; go_simp; rw [IntKind.wrap_i64]; omega⟩) dd inv ?_
 intro inv
 go_simp
 refine wpAnyLH_take (i := 5) (v := .pointer (some ⟨w.heap.size, 1, none⟩)) rfl (by kernel_rfl) (fun _ _ _ h => h) (.inl ⟨by rfl, fun W hW => by have q0 := hW.cell p0; have q1 := hW.cell p1; go_simp⟩) dd inv ?_
 intro inv
 go_simp
 refine wpAnyLH_take (i := 6) (v := .int .u8 b) rfl (by kernel_rfl) (fun _ _ _ h => h) (.inl ⟨by rfl, fun W hW => by have q0 := hW.cell p0; have q1 := hW.cell p1; go_simp⟩) dd inv ?_
 intro inv
 go_simp
 refine wpAnyLH_take (i := 7) (v := .int .u8 5) rfl (by kernel_rfl) (fun _ _ _ h => h) (.inl ⟨by rfl, fun W hW => by have q0 := hW.cell p0; have q1 := hW.cell p1; go_simp⟩) dd inv ?_
 intro inv
 go_simp
 refine wpAnyLH_oneI (i := 4) rfl (by kernel_rfl) inv (fun inv K0 hK0 => ?_)
 go_simp
 have d1 : Ext X ((X.alloc (.cells #[.int .i64 1, .int .i64 2, .int .i64 3, .int .i64 4, .int .i64 6, .int .i64 12] 3)).drew) := ((Ext.refl X).alloc _).drew
 have s0 : ((X.alloc (.cells #[.int .i64 1, .int .i64 2, .int .i64 3, .int .i64 4, .int .i64 6, .int .i64 12] 3)).drew).cell? ⟨X.heap.size, 5, none⟩ = some (.int .i64 12) := by go_simp
 refine hK0 _ _ d1 ?_
 clear hK0
 generalize ((X.alloc (.cells #[.int .i64 1, .int .i64 2, .int .i64 3, .int .i64 4, .int .i64 6, .int .i64 12] 3)).drew) = Y at *
 refine wpAnyLH_oneI (i := 8) rfl (by kernel_rfl) inv (fun inv K1 hK1 => ?_)
 go_simp
 refine hK1 _ _ d1 ?_
 clear hK1
 refine wpAnyLH_oneI (i := 9) rfl (by kernel_rfl) inv (fun inv K2 hK2 => ?_)
 go_simp
 refine hK2 _ _ d1 ?_
 clear hK2
 refine wpAnyLH_oneI (i := 10) rfl (by kernel_rfl) inv (fun inv K3 hK3 => ?_)
 go_simp
 refine (Hp.out _ (eX.trans d1)).mono ?_
 rintro e W1 ⟨rfl, hG1⟩
 have d2 := d1.trans hG1
 refine hK3 _ _ d2 ?_
 clear hK3
 refine wpAnyLH_end (by kernel_rfl) ?_
 have hO2 := HO.out.ext d2
 obtain ⟨q0, q1, f0, f1, r0, r1, hF⟩ := two_end (eX.trans d2) (by omega) hO2 (I x) (I y)
 have Hres := Lib.hid (show RetF w (.agg #[I x, I y]) (.returned (.agg #[I x, I y])) _ from ⟨rfl, hF.out⟩)
 clear inv p0 p1 dd d1 d2 hG1 s0 hO2
 go_wp2_with fail
 refine bodyPost_ret (v := .agg #[I x, I y]) (by simp [results, Tryz.results97, go_sem, r0, r1]) rfl Hres.out
theorem Fraction13_any {a b : Int} (hb : 0 ≤ b ∧ b ≤ 255) {w : World} (hL : Laid w) :
  Calls Tryz.prog 97 #[.agg #[.int .i8 a, .int .u8 b]] w fun e w' => e = .returned (RV (frQ a b)) ∧ Ext w w' := by
 obtain ⟨k, hka, hk⟩ : ∃ k : Int, a.tmod 41 = k ∧ -40 ≤ k ∧ k ≤ 40 := ⟨_, rfl, by
  have h1 := Int.tmod_lt_of_pos a (show (0 : Int) < 41 by decide)
  have h2 := Int.lt_tmod_of_pos a (show (0 : Int) < 41 by decide)
  omega⟩
 obtain ⟨j, hj6, hjb⟩ : ∃ j : Nat, j < 6 ∧ b.tmod 6 = (j : Int) := ⟨(b.tmod 6).toNat, by rw [Int.tmod_eq_emod_of_nonneg hb.1]; omega, by rw [Int.tmod_eq_emod_of_nonneg hb.1]; omega⟩
 have hq : frQ a b = ((k : Int) : Rat) / ((denN j : Int) : Rat) := by unfold frQ; rw [hka, hjb]; simp
 rw [hq]
 have hjs : j = 0 ∨ j = 1 ∨ j = 2 ∨ j = 3 ∨ j = 4 ∨ j = 5 := by omega
 rcases hjs with rfl | rfl | rfl | rfl | rfl | rfl
 ·exact fr13_0 hka hk hjb (fun W hW => part13_any (n := k) (d := 1) (by omega) (by omega) (by decide) (hL.ext hW))
 ·exact fr13_1 hka hk hjb (fun W hW => part13_any (n := k) (d := 2) (by omega) (by omega) (by decide) (hL.ext hW))
 ·exact fr13_2 hka hk hjb (fun W hW => part13_any (n := k) (d := 3) (by omega) (by omega) (by decide) (hL.ext hW))
 ·exact fr13_3 hka hk hjb (fun W hW => part13_any (n := k) (d := 4) (by omega) (by omega) (by decide) (hL.ext hW))
 ·exact fr13_4 hka hk hjb (fun W hW => part13_any (n := k) (d := 6) (by omega) (by omega) (by decide) (hL.ext hW))
 ·exact fr13_5 hka hk hjb (fun W hW => part13_any (n := k) (d := 12) (by omega) (by omega) (by decide) (hL.ext hW))
end Go.Proofs.YtjnpakablgommaaGreatDoor
