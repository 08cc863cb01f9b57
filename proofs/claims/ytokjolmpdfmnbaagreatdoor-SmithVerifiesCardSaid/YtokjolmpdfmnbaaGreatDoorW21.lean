/- Part 21 of the proof of the claim: contracts of the functions that it reaches, and plain laws; no condition. -/
import Derived.Test.YtokjolmpdfmnbaaGreatDoorW20
import Derived.Test.YtokjolmpdfmnbaaGreatDoorW15
namespace Go.Proofs.YtokjolmpdfmnbaaGreatDoor
open Go.RowKit Go.Sort
set_option maxHeartbeats 1000000 in
theorem fDiv_any {a b c d : Int} (ha : nd a ≤ 100000000) (hb : nd b ≤ 100000000) (hc : nd c ≤ 100000000) (hd : nd d ≤ 100000000) (hb0 : 0 < b) (hc0 : c ≠ 0) {w : World} (hL : Laid w) :
    Calls Tryz.prog 48 #[.agg #[I a, I b], .agg #[I c, I d]] w fun e w' => e = .returned (.tuple #[.agg #[I (qn (a * d) (b * c)), I (qd (a * d) (b * c))], .int .i64 0]) ∧ Ext w w' := by
  have HL := Lib.hid hL
  have n1 := nd_mul a d
  have n2 := nd_mul b c
  have hbd : b * c ≠ 0 := Int.mul_ne_zero (by omega) hc0
  have hl := Lib.hid (fun w hL => flowest_any (n := a * d) (d := b * c) (w := w) (by unfold LIM; omega) (by unfold LIM; omega) hbd hL)
  have hm1 := Lib.hid (fun w hL => Mul_any (a := a) (b := d) (w := w) (by unfold LIM; omega) hL)
  have hm2 := Lib.hid (fun w hL => Mul_any (a := b) (b := c) (w := w) (by unfold LIM; omega) hL)
  have hs := Lib.hid (fSign_any c d)
  have hsg : (c.sign == 0) = false := beq_eq_false_iff_ne.2 (fun h => hc0 (Int.sign_eq_zero_iff_zero.1 h))
  generalize c.sign = sg at *
  obtain ⟨x, hx⟩ : ∃ x, x = qn (a * d) (b * c) := ⟨_, rfl⟩
  obtain ⟨y, hy⟩ : ∃ y, y = qd (a * d) (b * c) := ⟨_, rfl⟩
  rw [← hx, ← hy] at hl ⊢
  clear hx hy n1 n2 hbd ha hb hc hd hb0 hc0 hL
  obtain ⟨X, hXe, hX, c0, c1, c2, c3, hO⟩ := fr2_alloc w 96 (I a) (I b) (I c) (I d) (.string ⟨#[]⟩) (.string ⟨#[]⟩)
  have HO := Lib.hid hO
  obtain ⟨bs, hbs⟩ : ∃ bs, bs = w.heap.size := ⟨_, rfl⟩
  have hsz := hX.size
  clear hO
  go_enter Tryz.func48, Tryz.ntmps48
  go_wp2_with fail
  rw [← hbs] at c0 c1 c2 c3 HO ⊢
  have hbs2 : w.heap.size ≤ bs + 1 + 1 := by omega
  clear hXe hbs
  refine (hs.out _).mono ?_
  rintro e w1 ⟨rfl, hE1⟩
  replace c0 := hE1.cell c0
  replace c1 := hE1.cell c1
  replace c2 := hE1.cell c2
  replace c3 := hE1.cell c3
  replace HO := Lib.hid (HO.out.ext hE1)
  replace hX := hX.trans hE1
  clear hE1
  go_wp2_with fail
  generalize w1 = X at *
  have d7 : Ext X X.drew := (Ext.refl X).drew
  refine wp_region_held_tail (S := fun W => Ext X W) 11 (by kernel_rfl) (by simp) ?_
  intro inv
  refine wpAnyLH_take (i := 0) (v := .pointer (some ⟨bs, 0, none⟩)) rfl (by kernel_rfl) (fun _ _ _ h => h) (.inl ⟨by rfl, fun W hW => by go_simp⟩) d7 inv ?_
  intro inv
  go_simp
  refine wpAnyLH_take (i := 1) (v := I a) rfl (by kernel_rfl) (fun _ _ _ h => h) (.inl ⟨by rfl, fun W hW => by have z0 := hW.cell c0; go_simp⟩) d7 inv ?_
  intro inv
  go_simp
  refine wpAnyLH_take (i := 2) (v := .pointer (some ⟨bs + 1, 1, none⟩)) rfl (by kernel_rfl) (fun _ _ _ h => h) (.inl ⟨by rfl, fun W hW => by go_simp⟩) d7 inv ?_
  intro inv
  go_simp
  refine wpAnyLH_take (i := 3) (v := I d) rfl (by kernel_rfl) (fun _ _ _ h => h) (.inl ⟨by rfl, fun W hW => by have z0 := hW.cell c3; go_simp⟩) d7 inv ?_
  intro inv
  go_simp
  refine wpAnyLH_take (i := 5) (v := .pointer (some ⟨bs, 1, none⟩)) rfl (by kernel_rfl) (fun _ _ _ h => h) (.inl ⟨by rfl, fun W hW => by go_simp⟩) d7 inv ?_
  intro inv
  go_simp
  refine wpAnyLH_take (i := 6) (v := I b) rfl (by kernel_rfl) (fun _ _ _ h => h) (.inl ⟨by rfl, fun W hW => by have z0 := hW.cell c1; go_simp⟩) d7 inv ?_
  intro inv
  go_simp
  refine wpAnyLH_take (i := 7) (v := .pointer (some ⟨bs + 1, 0, none⟩)) rfl (by kernel_rfl) (fun _ _ _ h => h) (.inl ⟨by rfl, fun W hW => by go_simp⟩) d7 inv ?_
  intro inv
  go_simp
  refine wpAnyLH_take (i := 8) (v := I c) rfl (by kernel_rfl) (fun _ _ _ h => h) (.inl ⟨by rfl, fun W hW => by have z0 := hW.cell c2; go_simp⟩) d7 inv ?_
  intro inv
  go_simp
  refine wpAnyLH_one (i := 4) rfl (by kernel_rfl) (fun K0 hK0 => ?_)
  go_simp
  refine (hm1.out _ (HL.out.ext (hX.trans d7))).mono ?_
  rintro e w0 ⟨rfl, hF0⟩
  have e0 := d7.trans hF0
  refine hK0 _ _ e0 ?_
  clear hK0
  refine wpAnyLH_one (i := 9) rfl (by kernel_rfl) (fun K1 hK1 => ?_)
  go_simp
  refine (hm2.out _ (HL.out.ext (hX.trans e0))).mono ?_
  rintro e w1 ⟨rfl, hF1⟩
  have e1 := e0.trans hF1
  refine hK1 _ _ e1 ?_
  clear hK1
  refine wpAnyLH_one (i := 10) rfl (by kernel_rfl) (fun K2 hK2 => ?_)
  go_simp
  refine (hl.out _ (HL.out.ext (hX.trans e1))).mono ?_
  rintro e w2 ⟨rfl, hF2⟩
  have e2 := e1.trans hF2
  refine hK2 _ _ e2 ?_
  clear hK2
  refine wpAnyLH_end (by kernel_rfl) ?_
  replace HO := Lib.hid (HO.out.ext e2)
  replace hX := hX.trans e2
  obtain ⟨q0, q1, f0, f1, r0, r1, hF⟩ := two_end hX hbs2 HO.out (I x) (I y)
  have Hres := Lib.hid (show RetF w (.tuple #[.agg #[I x, I y], .int .i64 0]) (.returned (.tuple #[.agg #[I x, I y], .int .i64 0])) _ from ⟨rfl, hF.out⟩)
  go_wp2_with fail
  refine bodyPost_ret (v := .tuple #[.agg #[I x, I y], .int .i64 0]) (by simp [results, Tryz.results48, go_sem, r0, r1]) rfl Hres.out
theorem add_one (a c : Int) : qn (a * 1 + c * 1) (1 * 1) = a + c ∧ qd (a * 1 + c * 1) (1 * 1) = 1 := by
  unfold qn qd qg
  simp
theorem fAdd_one {a c : Int} (ha : nd a ≤ 100000000) (hc : nd c ≤ 100000000) {w : World} (hL : Laid w) :
    Calls Tryz.prog 102 #[.agg #[I a, I 1], .agg #[I c, I 1]] w fun e w' => e = .returned (.agg #[I (a + c), I 1]) ∧ Ext w w' := by
  have HL := Lib.hid hL
  have hadd := Lib.hid (fun w hL => Add_any (a := a) (b := c) (w := w) (by unfold LIM; omega) (by unfold LIM; omega) hL)
  obtain ⟨x, hx⟩ : ∃ x, x = a + c := ⟨_, rfl⟩
  rw [← hx] at hadd ⊢
  have hb1 := itoa_eq_1 1
  rw [decide_eq_true rfl] at hb1
  have HI1 := Lib.hid (show I 1 = .string ⟨#[49]⟩ by unfold I S; rw [itoa_one])
  obtain ⟨X, hXe, hX, c0, c1, c2, c3, hO⟩ := fr2_alloc w 96 (I a) (I 1) (I c) (I 1) (.string ⟨#[]⟩) (.string ⟨#[]⟩)
  have HO := Lib.hid hO
  obtain ⟨bs, hbs⟩ : ∃ bs, bs = w.heap.size := ⟨_, rfl⟩
  have hsz := hX.size
  clear hO hx ha hc hL
  go_enter Tryz.func102, Tryz.ntmps102
  go_wp2_with fail
  rw [← hbs] at c0 c1 c2 c3 HO ⊢
  have hbs2 : w.heap.size ≤ bs + 1 + 1 := by omega
  clear hXe hbs
  refine (hadd.out _ (HL.out.ext hX)).mono ?_
  rintro e w1 ⟨rfl, hE1⟩
  replace c0 := hE1.cell c0
  replace c1 := hE1.cell c1
  replace c2 := hE1.cell c2
  replace c3 := hE1.cell c3
  replace HO := Lib.hid (HO.out.ext hE1)
  replace hX := hX.trans hE1
  clear hE1
  obtain ⟨q0, q1, f0, f1, r0, r1, hF⟩ := two_end hX hbs2 HO.out (I x) (.string ⟨#[49]⟩)
  have Hres := Lib.hid (show RetF w (.agg #[I x, I 1]) (.returned (.agg #[I x, .string ⟨#[49]⟩])) _ from ⟨by rw [HI1.out], hF.out⟩)
  go_wp2_with fail
  refine bodyPost_ret (v := .agg #[I x, .string ⟨#[49]⟩]) (by simp [results, Tryz.results102, go_sem, r0, r1]) rfl Hres.out
set_option maxHeartbeats 1000000 in
theorem fAdd_any {a b c d : Int} (ha : nd a ≤ 100000000) (hb : nd b ≤ 100000000) (hc : nd c ≤ 100000000) (hd : nd d ≤ 100000000) (hb0 : 0 < b) (hd0 : 0 < d) {w : World} (hL : Laid w) :
    Calls Tryz.prog 102 #[.agg #[I a, I b], .agg #[I c, I d]] w fun e w' => e = .returned (.agg #[I (qn (a * d + c * b) (b * d)), I (qd (a * d + c * b) (b * d))]) ∧ Ext w w' := by
  by_cases h11 : b = 1 ∧ d = 1
  · obtain ⟨rfl, rfl⟩ := h11
    rw [(add_one a c).1, (add_one a c).2]
    exact fAdd_one ha hc hL
  have HL := Lib.hid hL
  have n1 := nd_mul a d
  have n2 := nd_mul c b
  have n3 := nd_mul b d
  have n4 := nd_add (a * d) (c * b)
  have hbd : 0 < b * d := Int.mul_pos hb0 hd0
  have hl := Lib.hid (fun w hL => flowest_any (n := a * d + c * b) (d := b * d) (w := w) (by unfold LIM; omega) (by unfold LIM; omega) (by omega) hL)
  have hm1 := Lib.hid (fun w hL => Mul_any (a := a) (b := d) (w := w) (by unfold LIM; omega) hL)
  have hm2 := Lib.hid (fun w hL => Mul_any (a := c) (b := b) (w := w) (by unfold LIM; omega) hL)
  have hm3 := Lib.hid (fun w hL => Mul_any (a := b) (b := d) (w := w) (by unfold LIM; omega) hL)
  have hadd := Lib.hid (fun w hL => Add_any (a := a * d) (b := c * b) (w := w) (by unfold LIM; omega) (by unfold LIM; omega) hL)
  have hb1 := Lib.hid (fboth_any (a := a) (b := b) (by unfold LIM; omega) (by unfold LIM; omega))
  have hb2 := Lib.hid (fboth_any (a := c) (b := d) (by unfold LIM; omega) (by unfold LIM; omega))
  have HP := Lib.hid (fun (h1 : (fits 9 a && fits 9 b) = true) (h2 : (fits 9 c && fits 9 d) = true) => (show (a * d).natAbs ≤ 1000000000000000000 ∧ (c * b).natAbs ≤ 1000000000000000000 ∧ (b * d).natAbs ≤ 1000000000000000000 from by
    simp only [Bool.and_eq_true] at h1 h2
    have f1 := fits_lt h1.1; have f2 := fits_lt h2.1
    have f3 := fits_lt h1.2; have f4 := fits_lt h2.2
    have g1 := Nat.mul_le_mul (Nat.le_of_lt f1) (Nat.le_of_lt f4); rw [← Int.natAbs_mul] at g1
    have g2 := Nat.mul_le_mul (Nat.le_of_lt f2) (Nat.le_of_lt f3); rw [← Int.natAbs_mul] at g2
    have g3 := Nat.mul_le_mul (Nat.le_of_lt f3) (Nat.le_of_lt f4); rw [← Int.natAbs_mul] at g3
    exact ⟨by omega, by omega, by omega⟩))
  have Hof := Lib.hid (fun (h1 : (fits 9 a && fits 9 b) = true) (h2 : (fits 9 c && fits 9 d) = true) w hL => fof_any (n := a * d + c * b) (d := b * d) (by
    have := HP.out h1 h2; omega) (by
    have := HP.out h1 h2; omega) (w := w) hL)
  have Hw := Lib.hid (fun (h1 : (fits 9 a && fits 9 b) = true) (h2 : (fits 9 c && fits 9 d) = true) => (show IntKind.i64.wrap (a * d) = a * d ∧ IntKind.i64.wrap (c * b) = c * b ∧ IntKind.i64.wrap (a * d + c * b) = a * d + c * b ∧ IntKind.i64.wrap (b * d) = b * d from by
    have := HP.out h1 h2
    exact ⟨IntWalk.i64_in _ (by omega), IntWalk.i64_in _ (by omega), IntWalk.i64_in _ (by omega), IntWalk.i64_in _ (by omega)⟩))
  obtain ⟨x, hx⟩ : ∃ x, x = qn (a * d + c * b) (b * d) := ⟨_, rfl⟩
  obtain ⟨y, hy⟩ : ∃ y, y = qd (a * d + c * b) (b * d) := ⟨_, rfl⟩
  rw [← hx, ← hy] at hl ⊢
  rw [← hx, ← hy] at Hof
  have v1 : fits 9 a = true → (if fits 9 a = true then a else 0) = a := fun h => if_pos h
  have v2 : fits 9 b = true → (if fits 9 b = true then b else 0) = b := fun h => if_pos h
  have v3 : fits 9 c = true → (if fits 9 c = true then c else 0) = c := fun h => if_pos h
  have v4 : fits 9 d = true → (if fits 9 d = true then d else 0) = d := fun h => if_pos h
  have hq1 := itoa_eq_1 b
  have hq2 := itoa_eq_1 d
  have H11 := Lib.hid h11
  clear hx hy n1 n2 n3 n4 hbd ha hb hc hd hb0 hd0 hL HP h11
  obtain ⟨X, hXe, hX, c0, c1, c2, c3, hO⟩ := fr2_alloc w 96 (I a) (I b) (I c) (I d) (.string ⟨#[]⟩) (.string ⟨#[]⟩)
  have HO := Lib.hid hO
  obtain ⟨bs, hbs⟩ : ∃ bs, bs = w.heap.size := ⟨_, rfl⟩
  have hsz := hX.size
  clear hO
  by_cases hb1' : b = 1
  · have hd1' : ¬ d = 1 := fun h => H11.out ⟨hb1', h⟩
    rw [decide_eq_true hb1'] at hq1
    rw [decide_eq_false hd1'] at hq2
    clear hb1' hd1' H11
    cases h1 : (fits 9 a && fits 9 b)
    · rw [h1] at hb1
      generalize (if fits 9 a = true then a else 0) = a' at *
      generalize (if fits 9 b = true then b else 0) = b' at *
      clear Hof Hw h1 v1 v2 v3 v4 hb2
      go_enter Tryz.func102, Tryz.ntmps102
      go_wp2_with fail
      rw [← hbs] at c0 c1 c2 c3 HO ⊢
      have hbs2 : w.heap.size ≤ bs + 1 + 1 := by omega
      clear hXe hbs
      refine (hb1.out _).mono ?_
      rintro e w1 ⟨rfl, hE1⟩
      replace c0 := hE1.cell c0
      replace c1 := hE1.cell c1
      replace c2 := hE1.cell c2
      replace c3 := hE1.cell c3
      replace HO := Lib.hid (HO.out.ext hE1)
      replace hX := hX.trans hE1
      clear hE1
      go_wp2_with fail
      generalize w1 = X at *
      have d7 : Ext X X.drew := (Ext.refl X).drew
      refine wp_region_held_tail (S := fun W => Ext X W) 17 (by kernel_rfl) (by simp) ?_
      intro inv
      refine wpAnyLH_take (i := 0) (v := .pointer (some ⟨bs, 0, none⟩)) rfl (by kernel_rfl) (fun _ _ _ h => h) (.inl ⟨by rfl, fun W hW => by go_simp⟩) d7 inv ?_
      intro inv
      go_simp
      refine wpAnyLH_take (i := 1) (v := I a) rfl (by kernel_rfl) (fun _ _ _ h => h) (.inl ⟨by rfl, fun W hW => by have z0 := hW.cell c0; go_simp⟩) d7 inv ?_
      intro inv
      go_simp
      refine wpAnyLH_take (i := 2) (v := .pointer (some ⟨bs + 1, 1, none⟩)) rfl (by kernel_rfl) (fun _ _ _ h => h) (.inl ⟨by rfl, fun W hW => by go_simp⟩) d7 inv ?_
      intro inv
      go_simp
      refine wpAnyLH_take (i := 3) (v := I d) rfl (by kernel_rfl) (fun _ _ _ h => h) (.inl ⟨by rfl, fun W hW => by have z0 := hW.cell c3; go_simp⟩) d7 inv ?_
      intro inv
      go_simp
      refine wpAnyLH_take (i := 5) (v := .pointer (some ⟨bs + 1, 0, none⟩)) rfl (by kernel_rfl) (fun _ _ _ h => h) (.inl ⟨by rfl, fun W hW => by go_simp⟩) d7 inv ?_
      intro inv
      go_simp
      refine wpAnyLH_take (i := 6) (v := I c) rfl (by kernel_rfl) (fun _ _ _ h => h) (.inl ⟨by rfl, fun W hW => by have z0 := hW.cell c2; go_simp⟩) d7 inv ?_
      intro inv
      go_simp
      refine wpAnyLH_take (i := 7) (v := .pointer (some ⟨bs, 1, none⟩)) rfl (by kernel_rfl) (fun _ _ _ h => h) (.inl ⟨by rfl, fun W hW => by go_simp⟩) d7 inv ?_
      intro inv
      go_simp
      refine wpAnyLH_take (i := 8) (v := I b) rfl (by kernel_rfl) (fun _ _ _ h => h) (.inl ⟨by rfl, fun W hW => by have z0 := hW.cell c1; go_simp⟩) d7 inv ?_
      intro inv
      go_simp
      refine wpAnyLH_take (i := 11) (v := .pointer (some ⟨bs, 1, none⟩)) rfl (by kernel_rfl) (fun _ _ _ h => h) (.inl ⟨by rfl, fun W hW => by go_simp⟩) d7 inv ?_
      intro inv
      go_simp
      refine wpAnyLH_take (i := 12) (v := I b) rfl (by kernel_rfl) (fun _ _ _ h => h) (.inl ⟨by rfl, fun W hW => by have z0 := hW.cell c1; go_simp⟩) d7 inv ?_
      intro inv
      go_simp
      refine wpAnyLH_take (i := 13) (v := .pointer (some ⟨bs + 1, 1, none⟩)) rfl (by kernel_rfl) (fun _ _ _ h => h) (.inl ⟨by rfl, fun W hW => by go_simp⟩) d7 inv ?_
      intro inv
      go_simp
      refine wpAnyLH_take (i := 14) (v := I d) rfl (by kernel_rfl) (fun _ _ _ h => h) (.inl ⟨by rfl, fun W hW => by have z0 := hW.cell c3; go_simp⟩) d7 inv ?_
      intro inv
      go_simp
      refine wpAnyLH_one (i := 4) rfl (by kernel_rfl) (fun K0 hK0 => ?_)
      go_simp
      refine (hm1.out _ (HL.out.ext (hX.trans d7))).mono ?_
      rintro e w0 ⟨rfl, hF0⟩
      have e0 := d7.trans hF0
      refine hK0 _ _ e0 ?_
      clear hK0
      refine wpAnyLH_one (i := 9) rfl (by kernel_rfl) (fun K1 hK1 => ?_)
      go_simp
      refine (hm2.out _ (HL.out.ext (hX.trans e0))).mono ?_
      rintro e w1 ⟨rfl, hF1⟩
      have e1 := e0.trans hF1
      refine hK1 _ _ e1 ?_
      clear hK1
      refine wpAnyLH_one (i := 10) rfl (by kernel_rfl) (fun K2 hK2 => ?_)
      go_simp
      refine (hadd.out _ (HL.out.ext (hX.trans e1))).mono ?_
      rintro e w2 ⟨rfl, hF2⟩
      have e2 := e1.trans hF2
      refine hK2 _ _ e2 ?_
      clear hK2
      refine wpAnyLH_one (i := 15) rfl (by kernel_rfl) (fun K3 hK3 => ?_)
      go_simp
      refine (hm3.out _ (HL.out.ext (hX.trans e2))).mono ?_
      rintro e w3 ⟨rfl, hF3⟩
      have e3 := e2.trans hF3
      refine hK3 _ _ e3 ?_
      clear hK3
      refine wpAnyLH_one (i := 16) rfl (by kernel_rfl) (fun K4 hK4 => ?_)
      go_simp
      refine (hl.out _ (HL.out.ext (hX.trans e3))).mono ?_
      rintro e w4 ⟨rfl, hF4⟩
      have e4 := e3.trans hF4
      refine hK4 _ _ e4 ?_
      clear hK4
      refine wpAnyLH_end (by kernel_rfl) ?_
      replace HO := Lib.hid (HO.out.ext e4)
      replace hX := hX.trans e4
      obtain ⟨q0, q1, f0, f1, r0, r1, hF⟩ := two_end hX hbs2 HO.out (I x) (I y)
      have Hres := Lib.hid (show RetF w (.agg #[I x, I y]) (.returned (.agg #[I x, I y])) _ from ⟨rfl, hF.out⟩)
      go_wp2_with fail
      refine bodyPost_ret (v := .agg #[I x, I y]) (by simp [results, Tryz.results102, go_sem, r0, r1]) rfl Hres.out
    · rw [h1] at hb1
      cases h2 : (fits 9 c && fits 9 d)
      · rw [h2] at hb2
        generalize (if fits 9 a = true then a else 0) = a' at *
        generalize (if fits 9 b = true then b else 0) = b' at *
        generalize (if fits 9 c = true then c else 0) = c' at *
        generalize (if fits 9 d = true then d else 0) = d' at *
        clear Hof Hw h1 h2 v1 v2 v3 v4
        go_enter Tryz.func102, Tryz.ntmps102
        go_wp2_with fail
        rw [← hbs] at c0 c1 c2 c3 HO ⊢
        have hbs2 : w.heap.size ≤ bs + 1 + 1 := by omega
        clear hXe hbs
        refine (hb1.out _).mono ?_
        rintro e w1 ⟨rfl, hE1⟩
        replace c0 := hE1.cell c0
        replace c1 := hE1.cell c1
        replace c2 := hE1.cell c2
        replace c3 := hE1.cell c3
        replace HO := Lib.hid (HO.out.ext hE1)
        replace hX := hX.trans hE1
        clear hE1
        go_wp2_with fail
        refine (hb2.out _).mono ?_
        rintro e w2 ⟨rfl, hE1⟩
        replace c0 := hE1.cell c0
        replace c1 := hE1.cell c1
        replace c2 := hE1.cell c2
        replace c3 := hE1.cell c3
        replace HO := Lib.hid (HO.out.ext hE1)
        replace hX := hX.trans hE1
        clear hE1
        go_wp2_with fail
        generalize w2 = X at *
        have d7 : Ext X X.drew := (Ext.refl X).drew
        refine wp_region_held_tail (S := fun W => Ext X W) 17 (by kernel_rfl) (by simp) ?_
        intro inv
        refine wpAnyLH_take (i := 0) (v := .pointer (some ⟨bs, 0, none⟩)) rfl (by kernel_rfl) (fun _ _ _ h => h) (.inl ⟨by rfl, fun W hW => by go_simp⟩) d7 inv ?_
        intro inv
        go_simp
        refine wpAnyLH_take (i := 1) (v := I a) rfl (by kernel_rfl) (fun _ _ _ h => h) (.inl ⟨by rfl, fun W hW => by have z0 := hW.cell c0; go_simp⟩) d7 inv ?_
        intro inv
        go_simp
        refine wpAnyLH_take (i := 2) (v := .pointer (some ⟨bs + 1, 1, none⟩)) rfl (by kernel_rfl) (fun _ _ _ h => h) (.inl ⟨by rfl, fun W hW => by go_simp⟩) d7 inv ?_
        intro inv
        go_simp
        refine wpAnyLH_take (i := 3) (v := I d) rfl (by kernel_rfl) (fun _ _ _ h => h) (.inl ⟨by rfl, fun W hW => by have z0 := hW.cell c3; go_simp⟩) d7 inv ?_
        intro inv
        go_simp
        refine wpAnyLH_take (i := 5) (v := .pointer (some ⟨bs + 1, 0, none⟩)) rfl (by kernel_rfl) (fun _ _ _ h => h) (.inl ⟨by rfl, fun W hW => by go_simp⟩) d7 inv ?_
        intro inv
        go_simp
        refine wpAnyLH_take (i := 6) (v := I c) rfl (by kernel_rfl) (fun _ _ _ h => h) (.inl ⟨by rfl, fun W hW => by have z0 := hW.cell c2; go_simp⟩) d7 inv ?_
        intro inv
        go_simp
        refine wpAnyLH_take (i := 7) (v := .pointer (some ⟨bs, 1, none⟩)) rfl (by kernel_rfl) (fun _ _ _ h => h) (.inl ⟨by rfl, fun W hW => by go_simp⟩) d7 inv ?_
        intro inv
        go_simp
        refine wpAnyLH_take (i := 8) (v := I b) rfl (by kernel_rfl) (fun _ _ _ h => h) (.inl ⟨by rfl, fun W hW => by have z0 := hW.cell c1; go_simp⟩) d7 inv ?_
        intro inv
        go_simp
        refine wpAnyLH_take (i := 11) (v := .pointer (some ⟨bs, 1, none⟩)) rfl (by kernel_rfl) (fun _ _ _ h => h) (.inl ⟨by rfl, fun W hW => by go_simp⟩) d7 inv ?_
        intro inv
        go_simp
        refine wpAnyLH_take (i := 12) (v := I b) rfl (by kernel_rfl) (fun _ _ _ h => h) (.inl ⟨by rfl, fun W hW => by have z0 := hW.cell c1; go_simp⟩) d7 inv ?_
        intro inv
        go_simp
        refine wpAnyLH_take (i := 13) (v := .pointer (some ⟨bs + 1, 1, none⟩)) rfl (by kernel_rfl) (fun _ _ _ h => h) (.inl ⟨by rfl, fun W hW => by go_simp⟩) d7 inv ?_
        intro inv
        go_simp
        refine wpAnyLH_take (i := 14) (v := I d) rfl (by kernel_rfl) (fun _ _ _ h => h) (.inl ⟨by rfl, fun W hW => by have z0 := hW.cell c3; go_simp⟩) d7 inv ?_
        intro inv
        go_simp
        refine wpAnyLH_one (i := 4) rfl (by kernel_rfl) (fun K0 hK0 => ?_)
        go_simp
        refine (hm1.out _ (HL.out.ext (hX.trans d7))).mono ?_
        rintro e w0 ⟨rfl, hF0⟩
        have e0 := d7.trans hF0
        refine hK0 _ _ e0 ?_
        clear hK0
        refine wpAnyLH_one (i := 9) rfl (by kernel_rfl) (fun K1 hK1 => ?_)
        go_simp
        refine (hm2.out _ (HL.out.ext (hX.trans e0))).mono ?_
        rintro e w1 ⟨rfl, hF1⟩
        have e1 := e0.trans hF1
        refine hK1 _ _ e1 ?_
        clear hK1
        refine wpAnyLH_one (i := 10) rfl (by kernel_rfl) (fun K2 hK2 => ?_)
        go_simp
        refine (hadd.out _ (HL.out.ext (hX.trans e1))).mono ?_
        rintro e w2 ⟨rfl, hF2⟩
        have e2 := e1.trans hF2
        refine hK2 _ _ e2 ?_
        clear hK2
        refine wpAnyLH_one (i := 15) rfl (by kernel_rfl) (fun K3 hK3 => ?_)
        go_simp
        refine (hm3.out _ (HL.out.ext (hX.trans e2))).mono ?_
        rintro e w3 ⟨rfl, hF3⟩
        have e3 := e2.trans hF3
        refine hK3 _ _ e3 ?_
        clear hK3
        refine wpAnyLH_one (i := 16) rfl (by kernel_rfl) (fun K4 hK4 => ?_)
        go_simp
        refine (hl.out _ (HL.out.ext (hX.trans e3))).mono ?_
        rintro e w4 ⟨rfl, hF4⟩
        have e4 := e3.trans hF4
        refine hK4 _ _ e4 ?_
        clear hK4
        refine wpAnyLH_end (by kernel_rfl) ?_
        replace HO := Lib.hid (HO.out.ext e4)
        replace hX := hX.trans e4
        obtain ⟨q0, q1, f0, f1, r0, r1, hF⟩ := two_end hX hbs2 HO.out (I x) (I y)
        have Hres := Lib.hid (show RetF w (.agg #[I x, I y]) (.returned (.agg #[I x, I y])) _ from ⟨rfl, hF.out⟩)
        go_wp2_with fail
        refine bodyPost_ret (v := .agg #[I x, I y]) (by simp [results, Tryz.results102, go_sem, r0, r1]) rfl Hres.out
      · rw [h2] at hb2
        obtain ⟨hw1, hw2, hw3, hw4⟩ := Hw.out h1 h2
        have hof := Lib.hid (Hof.out h1 h2)
        simp only [Bool.and_eq_true] at h1 h2
        rw [v1 h1.1, v2 h1.2] at hb1
        rw [v3 h2.1, v4 h2.2] at hb2
        clear Hof Hw h1 h2 v1 v2 v3 v4
        go_enter Tryz.func102, Tryz.ntmps102
        go_wp2_with fail
        rw [← hbs] at c0 c1 c2 c3 HO ⊢
        have hbs2 : w.heap.size ≤ bs + 1 + 1 := by omega
        clear hXe hbs
        refine (hb1.out _).mono ?_
        rintro e w1 ⟨rfl, hE1⟩
        replace c0 := hE1.cell c0
        replace c1 := hE1.cell c1
        replace c2 := hE1.cell c2
        replace c3 := hE1.cell c3
        replace HO := Lib.hid (HO.out.ext hE1)
        replace hX := hX.trans hE1
        clear hE1
        go_wp2_with fail
        refine (hb2.out _).mono ?_
        rintro e w2 ⟨rfl, hE1⟩
        replace c0 := hE1.cell c0
        replace c1 := hE1.cell c1
        replace c2 := hE1.cell c2
        replace c3 := hE1.cell c3
        replace HO := Lib.hid (HO.out.ext hE1)
        replace hX := hX.trans hE1
        clear hE1
        go_wp2_with fail
        refine (hof.out _ (HL.out.ext hX)).mono ?_
        rintro e w3 ⟨rfl, hE1⟩
        replace c0 := hE1.cell c0
        replace c1 := hE1.cell c1
        replace c2 := hE1.cell c2
        replace c3 := hE1.cell c3
        replace HO := Lib.hid (HO.out.ext hE1)
        replace hX := hX.trans hE1
        clear hE1
        obtain ⟨q0, q1, f0, f1, r0, r1, hF⟩ := two_end hX hbs2 HO.out (I x) (I y)
        have Hres := Lib.hid (show RetF w (.agg #[I x, I y]) (.returned (.agg #[I x, I y])) _ from ⟨rfl, hF.out⟩)
        go_wp2_with fail
        refine bodyPost_ret (v := .agg #[I x, I y]) (by simp [results, Tryz.results102, go_sem, r0, r1]) rfl Hres.out
  · rw [decide_eq_false hb1'] at hq1
    clear hb1' H11 hq2
    cases h1 : (fits 9 a && fits 9 b)
    · rw [h1] at hb1
      generalize (if fits 9 a = true then a else 0) = a' at *
      generalize (if fits 9 b = true then b else 0) = b' at *
      clear Hof Hw h1 v1 v2 v3 v4 hb2
      go_enter Tryz.func102, Tryz.ntmps102
      go_wp2_with fail
      rw [← hbs] at c0 c1 c2 c3 HO ⊢
      have hbs2 : w.heap.size ≤ bs + 1 + 1 := by omega
      clear hXe hbs
      refine (hb1.out _).mono ?_
      rintro e w1 ⟨rfl, hE1⟩
      replace c0 := hE1.cell c0
      replace c1 := hE1.cell c1
      replace c2 := hE1.cell c2
      replace c3 := hE1.cell c3
      replace HO := Lib.hid (HO.out.ext hE1)
      replace hX := hX.trans hE1
      clear hE1
      go_wp2_with fail
      generalize w1 = X at *
      have d7 : Ext X X.drew := (Ext.refl X).drew
      refine wp_region_held_tail (S := fun W => Ext X W) 17 (by kernel_rfl) (by simp) ?_
      intro inv
      refine wpAnyLH_take (i := 0) (v := .pointer (some ⟨bs, 0, none⟩)) rfl (by kernel_rfl) (fun _ _ _ h => h) (.inl ⟨by rfl, fun W hW => by go_simp⟩) d7 inv ?_
      intro inv
      go_simp
      refine wpAnyLH_take (i := 1) (v := I a) rfl (by kernel_rfl) (fun _ _ _ h => h) (.inl ⟨by rfl, fun W hW => by have z0 := hW.cell c0; go_simp⟩) d7 inv ?_
      intro inv
      go_simp
      refine wpAnyLH_take (i := 2) (v := .pointer (some ⟨bs + 1, 1, none⟩)) rfl (by kernel_rfl) (fun _ _ _ h => h) (.inl ⟨by rfl, fun W hW => by go_simp⟩) d7 inv ?_
      intro inv
      go_simp
      refine wpAnyLH_take (i := 3) (v := I d) rfl (by kernel_rfl) (fun _ _ _ h => h) (.inl ⟨by rfl, fun W hW => by have z0 := hW.cell c3; go_simp⟩) d7 inv ?_
      intro inv
      go_simp
      refine wpAnyLH_take (i := 5) (v := .pointer (some ⟨bs + 1, 0, none⟩)) rfl (by kernel_rfl) (fun _ _ _ h => h) (.inl ⟨by rfl, fun W hW => by go_simp⟩) d7 inv ?_
      intro inv
      go_simp
      refine wpAnyLH_take (i := 6) (v := I c) rfl (by kernel_rfl) (fun _ _ _ h => h) (.inl ⟨by rfl, fun W hW => by have z0 := hW.cell c2; go_simp⟩) d7 inv ?_
      intro inv
      go_simp
      refine wpAnyLH_take (i := 7) (v := .pointer (some ⟨bs, 1, none⟩)) rfl (by kernel_rfl) (fun _ _ _ h => h) (.inl ⟨by rfl, fun W hW => by go_simp⟩) d7 inv ?_
      intro inv
      go_simp
      refine wpAnyLH_take (i := 8) (v := I b) rfl (by kernel_rfl) (fun _ _ _ h => h) (.inl ⟨by rfl, fun W hW => by have z0 := hW.cell c1; go_simp⟩) d7 inv ?_
      intro inv
      go_simp
      refine wpAnyLH_take (i := 11) (v := .pointer (some ⟨bs, 1, none⟩)) rfl (by kernel_rfl) (fun _ _ _ h => h) (.inl ⟨by rfl, fun W hW => by go_simp⟩) d7 inv ?_
      intro inv
      go_simp
      refine wpAnyLH_take (i := 12) (v := I b) rfl (by kernel_rfl) (fun _ _ _ h => h) (.inl ⟨by rfl, fun W hW => by have z0 := hW.cell c1; go_simp⟩) d7 inv ?_
      intro inv
      go_simp
      refine wpAnyLH_take (i := 13) (v := .pointer (some ⟨bs + 1, 1, none⟩)) rfl (by kernel_rfl) (fun _ _ _ h => h) (.inl ⟨by rfl, fun W hW => by go_simp⟩) d7 inv ?_
      intro inv
      go_simp
      refine wpAnyLH_take (i := 14) (v := I d) rfl (by kernel_rfl) (fun _ _ _ h => h) (.inl ⟨by rfl, fun W hW => by have z0 := hW.cell c3; go_simp⟩) d7 inv ?_
      intro inv
      go_simp
      refine wpAnyLH_one (i := 4) rfl (by kernel_rfl) (fun K0 hK0 => ?_)
      go_simp
      refine (hm1.out _ (HL.out.ext (hX.trans d7))).mono ?_
      rintro e w0 ⟨rfl, hF0⟩
      have e0 := d7.trans hF0
      refine hK0 _ _ e0 ?_
      clear hK0
      refine wpAnyLH_one (i := 9) rfl (by kernel_rfl) (fun K1 hK1 => ?_)
      go_simp
      refine (hm2.out _ (HL.out.ext (hX.trans e0))).mono ?_
      rintro e w1 ⟨rfl, hF1⟩
      have e1 := e0.trans hF1
      refine hK1 _ _ e1 ?_
      clear hK1
      refine wpAnyLH_one (i := 10) rfl (by kernel_rfl) (fun K2 hK2 => ?_)
      go_simp
      refine (hadd.out _ (HL.out.ext (hX.trans e1))).mono ?_
      rintro e w2 ⟨rfl, hF2⟩
      have e2 := e1.trans hF2
      refine hK2 _ _ e2 ?_
      clear hK2
      refine wpAnyLH_one (i := 15) rfl (by kernel_rfl) (fun K3 hK3 => ?_)
      go_simp
      refine (hm3.out _ (HL.out.ext (hX.trans e2))).mono ?_
      rintro e w3 ⟨rfl, hF3⟩
      have e3 := e2.trans hF3
      refine hK3 _ _ e3 ?_
      clear hK3
      refine wpAnyLH_one (i := 16) rfl (by kernel_rfl) (fun K4 hK4 => ?_)
      go_simp
      refine (hl.out _ (HL.out.ext (hX.trans e3))).mono ?_
      rintro e w4 ⟨rfl, hF4⟩
      have e4 := e3.trans hF4
      refine hK4 _ _ e4 ?_
      clear hK4
      refine wpAnyLH_end (by kernel_rfl) ?_
      replace HO := Lib.hid (HO.out.ext e4)
      replace hX := hX.trans e4
      obtain ⟨q0, q1, f0, f1, r0, r1, hF⟩ := two_end hX hbs2 HO.out (I x) (I y)
      have Hres := Lib.hid (show RetF w (.agg #[I x, I y]) (.returned (.agg #[I x, I y])) _ from ⟨rfl, hF.out⟩)
      go_wp2_with fail
      refine bodyPost_ret (v := .agg #[I x, I y]) (by simp [results, Tryz.results102, go_sem, r0, r1]) rfl Hres.out
    · rw [h1] at hb1
      cases h2 : (fits 9 c && fits 9 d)
      · rw [h2] at hb2
        generalize (if fits 9 a = true then a else 0) = a' at *
        generalize (if fits 9 b = true then b else 0) = b' at *
        generalize (if fits 9 c = true then c else 0) = c' at *
        generalize (if fits 9 d = true then d else 0) = d' at *
        clear Hof Hw h1 h2 v1 v2 v3 v4
        go_enter Tryz.func102, Tryz.ntmps102
        go_wp2_with fail
        rw [← hbs] at c0 c1 c2 c3 HO ⊢
        have hbs2 : w.heap.size ≤ bs + 1 + 1 := by omega
        clear hXe hbs
        refine (hb1.out _).mono ?_
        rintro e w1 ⟨rfl, hE1⟩
        replace c0 := hE1.cell c0
        replace c1 := hE1.cell c1
        replace c2 := hE1.cell c2
        replace c3 := hE1.cell c3
        replace HO := Lib.hid (HO.out.ext hE1)
        replace hX := hX.trans hE1
        clear hE1
        go_wp2_with fail
        refine (hb2.out _).mono ?_
        rintro e w2 ⟨rfl, hE1⟩
        replace c0 := hE1.cell c0
        replace c1 := hE1.cell c1
        replace c2 := hE1.cell c2
        replace c3 := hE1.cell c3
        replace HO := Lib.hid (HO.out.ext hE1)
        replace hX := hX.trans hE1
        clear hE1
        go_wp2_with fail
        generalize w2 = X at *
        have d7 : Ext X X.drew := (Ext.refl X).drew
        refine wp_region_held_tail (S := fun W => Ext X W) 17 (by kernel_rfl) (by simp) ?_
        intro inv
        refine wpAnyLH_take (i := 0) (v := .pointer (some ⟨bs, 0, none⟩)) rfl (by kernel_rfl) (fun _ _ _ h => h) (.inl ⟨by rfl, fun W hW => by go_simp⟩) d7 inv ?_
        intro inv
        go_simp
        refine wpAnyLH_take (i := 1) (v := I a) rfl (by kernel_rfl) (fun _ _ _ h => h) (.inl ⟨by rfl, fun W hW => by have z0 := hW.cell c0; go_simp⟩) d7 inv ?_
        intro inv
        go_simp
        refine wpAnyLH_take (i := 2) (v := .pointer (some ⟨bs + 1, 1, none⟩)) rfl (by kernel_rfl) (fun _ _ _ h => h) (.inl ⟨by rfl, fun W hW => by go_simp⟩) d7 inv ?_
        intro inv
        go_simp
        refine wpAnyLH_take (i := 3) (v := I d) rfl (by kernel_rfl) (fun _ _ _ h => h) (.inl ⟨by rfl, fun W hW => by have z0 := hW.cell c3; go_simp⟩) d7 inv ?_
        intro inv
        go_simp
        refine wpAnyLH_take (i := 5) (v := .pointer (some ⟨bs + 1, 0, none⟩)) rfl (by kernel_rfl) (fun _ _ _ h => h) (.inl ⟨by rfl, fun W hW => by go_simp⟩) d7 inv ?_
        intro inv
        go_simp
        refine wpAnyLH_take (i := 6) (v := I c) rfl (by kernel_rfl) (fun _ _ _ h => h) (.inl ⟨by rfl, fun W hW => by have z0 := hW.cell c2; go_simp⟩) d7 inv ?_
        intro inv
        go_simp
        refine wpAnyLH_take (i := 7) (v := .pointer (some ⟨bs, 1, none⟩)) rfl (by kernel_rfl) (fun _ _ _ h => h) (.inl ⟨by rfl, fun W hW => by go_simp⟩) d7 inv ?_
        intro inv
        go_simp
        refine wpAnyLH_take (i := 8) (v := I b) rfl (by kernel_rfl) (fun _ _ _ h => h) (.inl ⟨by rfl, fun W hW => by have z0 := hW.cell c1; go_simp⟩) d7 inv ?_
        intro inv
        go_simp
        refine wpAnyLH_take (i := 11) (v := .pointer (some ⟨bs, 1, none⟩)) rfl (by kernel_rfl) (fun _ _ _ h => h) (.inl ⟨by rfl, fun W hW => by go_simp⟩) d7 inv ?_
        intro inv
        go_simp
        refine wpAnyLH_take (i := 12) (v := I b) rfl (by kernel_rfl) (fun _ _ _ h => h) (.inl ⟨by rfl, fun W hW => by have z0 := hW.cell c1; go_simp⟩) d7 inv ?_
        intro inv
        go_simp
        refine wpAnyLH_take (i := 13) (v := .pointer (some ⟨bs + 1, 1, none⟩)) rfl (by kernel_rfl) (fun _ _ _ h => h) (.inl ⟨by rfl, fun W hW => by go_simp⟩) d7 inv ?_
        intro inv
        go_simp
        refine wpAnyLH_take (i := 14) (v := I d) rfl (by kernel_rfl) (fun _ _ _ h => h) (.inl ⟨by rfl, fun W hW => by have z0 := hW.cell c3; go_simp⟩) d7 inv ?_
        intro inv
        go_simp
        refine wpAnyLH_one (i := 4) rfl (by kernel_rfl) (fun K0 hK0 => ?_)
        go_simp
        refine (hm1.out _ (HL.out.ext (hX.trans d7))).mono ?_
        rintro e w0 ⟨rfl, hF0⟩
        have e0 := d7.trans hF0
        refine hK0 _ _ e0 ?_
        clear hK0
        refine wpAnyLH_one (i := 9) rfl (by kernel_rfl) (fun K1 hK1 => ?_)
        go_simp
        refine (hm2.out _ (HL.out.ext (hX.trans e0))).mono ?_
        rintro e w1 ⟨rfl, hF1⟩
        have e1 := e0.trans hF1
        refine hK1 _ _ e1 ?_
        clear hK1
        refine wpAnyLH_one (i := 10) rfl (by kernel_rfl) (fun K2 hK2 => ?_)
        go_simp
        refine (hadd.out _ (HL.out.ext (hX.trans e1))).mono ?_
        rintro e w2 ⟨rfl, hF2⟩
        have e2 := e1.trans hF2
        refine hK2 _ _ e2 ?_
        clear hK2
        refine wpAnyLH_one (i := 15) rfl (by kernel_rfl) (fun K3 hK3 => ?_)
        go_simp
        refine (hm3.out _ (HL.out.ext (hX.trans e2))).mono ?_
        rintro e w3 ⟨rfl, hF3⟩
        have e3 := e2.trans hF3
        refine hK3 _ _ e3 ?_
        clear hK3
        refine wpAnyLH_one (i := 16) rfl (by kernel_rfl) (fun K4 hK4 => ?_)
        go_simp
        refine (hl.out _ (HL.out.ext (hX.trans e3))).mono ?_
        rintro e w4 ⟨rfl, hF4⟩
        have e4 := e3.trans hF4
        refine hK4 _ _ e4 ?_
        clear hK4
        refine wpAnyLH_end (by kernel_rfl) ?_
        replace HO := Lib.hid (HO.out.ext e4)
        replace hX := hX.trans e4
        obtain ⟨q0, q1, f0, f1, r0, r1, hF⟩ := two_end hX hbs2 HO.out (I x) (I y)
        have Hres := Lib.hid (show RetF w (.agg #[I x, I y]) (.returned (.agg #[I x, I y])) _ from ⟨rfl, hF.out⟩)
        go_wp2_with fail
        refine bodyPost_ret (v := .agg #[I x, I y]) (by simp [results, Tryz.results102, go_sem, r0, r1]) rfl Hres.out
      · rw [h2] at hb2
        obtain ⟨hw1, hw2, hw3, hw4⟩ := Hw.out h1 h2
        have hof := Lib.hid (Hof.out h1 h2)
        simp only [Bool.and_eq_true] at h1 h2
        rw [v1 h1.1, v2 h1.2] at hb1
        rw [v3 h2.1, v4 h2.2] at hb2
        clear Hof Hw h1 h2 v1 v2 v3 v4
        go_enter Tryz.func102, Tryz.ntmps102
        go_wp2_with fail
        rw [← hbs] at c0 c1 c2 c3 HO ⊢
        have hbs2 : w.heap.size ≤ bs + 1 + 1 := by omega
        clear hXe hbs
        refine (hb1.out _).mono ?_
        rintro e w1 ⟨rfl, hE1⟩
        replace c0 := hE1.cell c0
        replace c1 := hE1.cell c1
        replace c2 := hE1.cell c2
        replace c3 := hE1.cell c3
        replace HO := Lib.hid (HO.out.ext hE1)
        replace hX := hX.trans hE1
        clear hE1
        go_wp2_with fail
        refine (hb2.out _).mono ?_
        rintro e w2 ⟨rfl, hE1⟩
        replace c0 := hE1.cell c0
        replace c1 := hE1.cell c1
        replace c2 := hE1.cell c2
        replace c3 := hE1.cell c3
        replace HO := Lib.hid (HO.out.ext hE1)
        replace hX := hX.trans hE1
        clear hE1
        go_wp2_with fail
        refine (hof.out _ (HL.out.ext hX)).mono ?_
        rintro e w3 ⟨rfl, hE1⟩
        replace c0 := hE1.cell c0
        replace c1 := hE1.cell c1
        replace c2 := hE1.cell c2
        replace c3 := hE1.cell c3
        replace HO := Lib.hid (HO.out.ext hE1)
        replace hX := hX.trans hE1
        clear hE1
        obtain ⟨q0, q1, f0, f1, r0, r1, hF⟩ := two_end hX hbs2 HO.out (I x) (I y)
        have Hres := Lib.hid (show RetF w (.agg #[I x, I y]) (.returned (.agg #[I x, I y])) _ from ⟨rfl, hF.out⟩)
        go_wp2_with fail
        refine bodyPost_ret (v := .agg #[I x, I y]) (by simp [results, Tryz.results102, go_sem, r0, r1]) rfl Hres.out
theorem fSub_any {a b c d : Int} (ha : nd a ≤ 100000000) (hb : nd b ≤ 100000000) (hc : nd c ≤ 100000000) (hd : nd d ≤ 100000000) (hb0 : 0 < b) (hd0 : 0 < d) {w : World} (hL : Laid w) :
    Calls Tryz.prog 50 #[.agg #[I a, I b], .agg #[I c, I d]] w fun e w' => e = .returned (.agg #[I (qn (a * d - c * b) (b * d)), I (qd (a * d - c * b) (b * d))]) ∧ Ext w w' := by
  have HL := Lib.hid hL
  have hN := Lib.hid (fun w (_ : Laid w) => fNeg_any (a := c) (b := d) (by unfold LIM; omega) w)
  have hA := Lib.hid (fun w hL => fAdd_any (a := a) (b := b) (c := -c) (d := d) (w := w) ha hb (by rw [nd_neg]; exact hc) hd hb0 hd0 hL)
  rw [show a * d + -c * b = a * d - c * b by rw [Int.neg_mul]; omega] at hA
  obtain ⟨x, hx⟩ : ∃ x, x = qn (a * d - c * b) (b * d) := ⟨_, rfl⟩
  obtain ⟨y, hy⟩ : ∃ y, y = qd (a * d - c * b) (b * d) := ⟨_, rfl⟩
  rw [← hx, ← hy] at hA ⊢
  generalize -c = c' at *
  clear hx hy ha hb hc hd hb0 hd0 hL
  obtain ⟨X, hXe, hX, c0, c1, c2, c3, hO⟩ := fr2_alloc w 96 (I a) (I b) (I c) (I d) (.string ⟨#[]⟩) (.string ⟨#[]⟩)
  have HO := Lib.hid hO
  obtain ⟨bs, hbs⟩ : ∃ bs, bs = w.heap.size := ⟨_, rfl⟩
  have hsz := hX.size
  clear hO
  go_enter Tryz.func50, Tryz.ntmps50
  go_wp2_with fail
  rw [← hbs] at c0 c1 c2 c3 HO ⊢
  have hbs2 : w.heap.size ≤ bs + 1 + 1 := by omega
  clear hXe hbs
  have d7 : Ext X X.drew := (Ext.refl X).drew
  refine wp_region_held_tail (S := fun W => Ext X W) 4 (by kernel_rfl) (by simp) ?_
  intro inv
  refine wpAnyLH_take (i := 0) (v := .agg #[I a, I b]) rfl (by kernel_rfl) (fun _ _ _ h => h) (.inl ⟨by rfl, fun W hW => by have z0 := hW.cell c0; have z1 := hW.cell c1; go_simp⟩) d7 inv ?_
  intro inv
  go_simp
  refine wpAnyLH_take (i := 1) (v := .agg #[I c, I d]) rfl (by kernel_rfl) (fun _ _ _ h => h) (.inl ⟨by rfl, fun W hW => by have z0 := hW.cell c2; have z1 := hW.cell c3; go_simp⟩) d7 inv ?_
  intro inv
  go_simp
  refine wpAnyLH_one (i := 2) rfl (by kernel_rfl) (fun K0 hK0 => ?_)
  go_simp
  refine (hN.out _ (HL.out.ext (hX.trans d7))).mono ?_
  rintro e w0 ⟨rfl, hF0⟩
  have e0 := d7.trans hF0
  refine hK0 _ _ e0 ?_
  clear hK0
  refine wpAnyLH_one (i := 3) rfl (by kernel_rfl) (fun K1 hK1 => ?_)
  go_simp
  refine (hA.out _ (HL.out.ext (hX.trans e0))).mono ?_
  rintro e w1 ⟨rfl, hF1⟩
  have e1 := e0.trans hF1
  refine hK1 _ _ e1 ?_
  clear hK1
  refine wpAnyLH_end (by kernel_rfl) ?_
  replace HO := Lib.hid (HO.out.ext e1)
  replace hX := hX.trans e1
  obtain ⟨q0, q1, f0, f1, r0, r1, hF⟩ := two_end hX hbs2 HO.out (I x) (I y)
  have Hres := Lib.hid (show RetF w (.agg #[I x, I y]) (.returned (.agg #[I x, I y])) _ from ⟨rfl, hF.out⟩)
  go_wp2_with fail
  refine bodyPost_ret (v := .agg #[I x, I y]) (by simp [results, Tryz.results50, go_sem, r0, r1]) rfl Hres.out
end Go.Proofs.YtokjolmpdfmnbaaGreatDoor
namespace Go.Proofs.YtokjolmpdfmnbaaGreatDoor
open Go.RowKit Go.Sort
theorem qn_one (z : Int) : qn z 1 = z := by unfold qn qg; simp
theorem qd_one (z : Int) : qd z 1 = 1 := by unfold qd qg; simp
theorem qd_pos {n d : Int} (h : d ≠ 0) : 0 < qd n d := by
  unfold qd
  have h1 := qg_pos (n := n) h
  have h2 : (qg n d : Int) ∣ d := Int.ofNat_dvd_left.2 (Nat.gcd_dvd_right _ _)
  have h3 : (qg n d : Int) ∣ (d.natAbs : Int) := Int.dvd_natAbs.2 h2
  exact Int.ediv_pos_of_pos_of_dvd (by omega) (by omega) h3
theorem nd_ediv (n : Int) (g : Nat) : nd (n / (g : Int)) ≤ nd n := nd_le (Int.natAbs_ediv_le_natAbs n (g : Int))
theorem nd_qn (n d : Int) : nd (qn n d) ≤ nd n := by
  unfold qn
  refine Nat.le_trans (nd_ediv _ _) ?_
  split
  · rw [nd_neg]; exact Nat.le_refl _
  · exact Nat.le_refl _
theorem nd_qd (n d : Int) : nd (qd n d) ≤ nd d := by
  unfold qd
  refine Nat.le_trans (nd_ediv _ _) ?_
  show Lib.nDigits _ ≤ _
  rw [Int.natAbs_natCast]
  exact Nat.le_refl _
def qmk (n d : Int) : Int × Int := (qn n d, qd n d)
def qmul (a b : Int × Int) : Int × Int := qmk (a.1 * b.1) (a.2 * b.2)
def qsub (a b : Int × Int) : Int × Int := qmk (a.1 * b.2 - b.1 * a.2) (a.2 * b.2)
def qdiv (a b : Int × Int) : Int × Int := qmk (a.1 * b.2) (a.2 * b.1)
def ordQ (r : List Int) (s : List (Int × Int)) : Int × Int := qdiv (s.getD (pv r) (0, 1)) (r.getD (pv r) 0, 1)
def ordI (r : List Int) (q : Int × Int) (s : List (Int × Int)) (i : Nat) : Int × Int := qsub (s.getD i (0, 1)) (qmul q (r.getD i 0, 1))
def ordTo (r : List Int) (q : Int × Int) (s : List (Int × Int)) (i : Nat) : List (Int × Int) := (List.range i).map (ordI r q s) ++ s.drop i
def ordF : Mx → List (Int × Int) → Nat → List (Int × Int) × Nat
  | [], s, k => (s, k)
  | r :: H, s, k => ordF H (ordTo r (ordQ r s) s s.length) (Nat.lcm k (ordQ r s).2.natAbs)
def OkQ (q : Int × Int) : Prop := nd q.1 ≤ 10000000 ∧ nd q.2 ≤ 10000000 ∧ 0 < q.2
def BndF (n : Nat) : Mx → List (Int × Int) → Prop
  | [], _ => True
  | r :: H, s => (∀ i, i < n → OkQ (s.getD i (0, 1))) ∧ pv r < n ∧ r.getD (pv r) 0 ≠ 0 ∧ (∀ i, i < n → nd (r.getD i 0) ≤ 10000000) ∧ BndF n H (ordTo r (ordQ r s) s s.length)
theorem ordTo_zero (r : List Int) (q : Int × Int) (s : List (Int × Int)) : ordTo r q s 0 = s := by simp [ordTo]
theorem ordTo_length (r : List Int) (q : Int × Int) (s : List (Int × Int)) {i : Nat} (h : i ≤ s.length) : (ordTo r q s i).length = s.length := by
  simp [ordTo]; omega
theorem ordTo_at (r : List Int) (q : Int × Int) (s : List (Int × Int)) {i : Nat} (_ : i < s.length) : (ordTo r q s i)[i]? = s[i]? := by
  unfold ordTo
  rw [List.getElem?_append_right (by simp)]
  simp
theorem ordTo_set (r : List Int) (q : Int × Int) (s : List (Int × Int)) {i : Nat} (h : i < s.length) : (ordTo r q s i).set i (ordI r q s i) = ordTo r q s (i + 1) := by
  unfold ordTo
  rw [List.set_append_right _ _ (by simp), List.range_succ, List.map_append, List.append_assoc]
  congr 1
  simp only [List.length_map, List.length_range, Nat.sub_self]
  rw [List.drop_eq_getElem_cons h, List.set_cons_zero]
  rfl
def fl (l : List (Value × Value)) : List Value := l.flatMap fun p => [p.1, p.2]
def qv (q : Int × Int) : Value × Value := (I q.1, I q.2)
theorem fl_cons (p : Value × Value) (l : List (Value × Value)) : fl (p :: l) = p.1 :: p.2 :: fl l := by simp [fl]
theorem fl_length (l : List (Value × Value)) : (fl l).length = 2 * l.length := by
  induction l with
  | nil => rfl
  | cons p l ih => rw [fl_cons]; simp [ih]; omega
theorem fl_get : ∀ (l : List (Value × Value)) (i : Nat) {p : Value × Value}, l[i]? = some p → (fl l)[2 * i]? = some p.1 ∧ (fl l)[2 * i + 1]? = some p.2
  | [], i, p, h => by simp at h
  | x :: l, 0, p, h => by
    simp at h; subst h
    rw [fl_cons]; exact ⟨rfl, rfl⟩
  | x :: l, i + 1, p, h => by
    rw [fl_cons, show 2 * (i + 1) = 2 * i + 1 + 1 by omega]
    exact fl_get l i (by simpa using h)
theorem fl_set : ∀ (l : List (Value × Value)) (i : Nat) (p : Value × Value), ((fl l).set (2 * i) p.1).set (2 * i + 1) p.2 = fl (l.set i p)
  | [], i, p => by simp [fl]
  | x :: l, 0, p => by simp [fl_cons]
  | x :: l, i + 1, p => by
    rw [fl_cons, show 2 * (i + 1) = 2 * i + 1 + 1 by omega]
    simp only [List.set_cons_succ]
    rw [fl_cons, fl_set l i p]
def FrV (B : Nat) (w : World) (g : Nat) (l : List (Value × Value)) : Prop := OwnV 96 B w g (2 * l.length) (fl l)
theorem FrV.ext {B : Nat} {w w' : World} {g : Nat} {l : List (Value × Value)} (h : FrV B w g l) (hE : Ext w w') : FrV B w' g l := OwnV.ext h hE
theorem FrV.cells {B : Nat} {w : World} {g : Nat} {l : List (Value × Value)} (h : FrV B w g l) {i : Nat} {p : Value × Value} (hi : l[i]? = some p) :
    w.cell? ⟨g, i * 2, none⟩ = some p.1 ∧ w.cell? ⟨g, i * 2 + 1, none⟩ = some p.2 := by
  rw [Nat.mul_comm i 2]
  obtain ⟨h1, h2⟩ := fl_get l i hi
  obtain ⟨a1, e1⟩ := List.getElem?_eq_some_iff.1 h1
  obtain ⟨a2, e2⟩ := List.getElem?_eq_some_iff.1 h2
  exact ⟨by rw [← e1]; exact OwnV.cell h a1, by rw [← e2]; exact OwnV.cell h a2⟩
theorem FrV.set {B : Nat} {w : World} {g : Nat} {l : List (Value × Value)} (h : FrV B w g l) (i : Nat) (p : Value × Value) :
    FrV B ((w.setCell ⟨g, i * 2, none⟩ p.1).setCell ⟨g, i * 2 + 1, none⟩ p.2) g (l.set i p) ∧ w.grownBy ((w.setCell ⟨g, i * 2, none⟩ p.1).setCell ⟨g, i * 2 + 1, none⟩ p.2) (some g) ∧
      w.frozen? ⟨g, i * 2, none⟩ = false ∧ w.frozen? ⟨g, i * 2 + 1, none⟩ = false := by
  rw [Nat.mul_comm i 2]
  obtain ⟨h1, g1⟩ := OwnV.set h (2 * i) p.1
  obtain ⟨h2, g2⟩ := h1.set (2 * i + 1) p.2
  refine ⟨?_, grown_trans g1 g2, OwnV.frozen h _, OwnV.frozen h _⟩
  unfold FrV
  rw [fl_set] at h2
  rw [List.length_set]
  exact h2
end Go.Proofs.YtokjolmpdfmnbaaGreatDoor
