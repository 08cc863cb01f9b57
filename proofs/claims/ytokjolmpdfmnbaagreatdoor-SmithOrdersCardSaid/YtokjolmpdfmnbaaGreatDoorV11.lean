/- Part 11 of the proof of the claim: contracts of the functions that it reaches, and plain laws; no condition. -/
import Derived.Test.YtokjolmpdfmnbaaGreatDoorV10
import Derived.Test.YtokjolmpdfmnbaaGreatDoorV08
import Derived.Test.YtokjolmpdfmnbaaGreatDoorV09
namespace Go.Proofs.YtokjolmpdfmnbaaGreatDoor
open Go.RowKit Go.Sort
set_option maxHeartbeats 1000000 in
theorem fDiv_any {a b c d : Int} (ha : nd a ≤ 100000000) (hb : nd b ≤ 100000000) (hc : nd c ≤ 100000000) (hd : nd d ≤ 100000000) (hb0 : 0 < b) (hc0 : c ≠ 0) {w : World} (hL : Laid w) :
    Calls Tryz.prog 48 #[.agg #[I a, I b], .agg #[I c, I d]] w fun e w' => e = .returned (.tuple #[.agg #[I (qn (a * d) (b * c)), I (qd (a * d) (b * c))], .int .i64 0]) ∧ Ext w w' := by
  have HL := Lib.hid hL
  have n1 := nd_mul a d
  have n2 := nd_mul b c
  have hbd : b * c ≠ 0 := Int.mul_ne_zero (by omega) hc0
  have hl := Lib.hid (fun w hL => flowest_any (n := a * d) (d := b * c) (w := w) (by unfold LIM; omega) (by unfold LIM; omega) hbd hL)
  have hm1 := Lib.hid (fun w hL => Mul_any (a := a) (b := d) (w := w) (by unfold LIM; omega) hL)
  have hm2 := Lib.hid (fun w hL => Mul_any (a := b) (b := c) (w := w) (by unfold LIM; omega) hL)
  have hs := Lib.hid (fSign_any c d)
  have hsg : (c.sign == 0) = false := beq_eq_false_iff_ne.2 (fun h => hc0 (Int.sign_eq_zero_iff_zero.1 h))
  generalize c.sign = sg at *
  obtain ⟨x, hx⟩ : ∃ x, x = qn (a * d) (b * c) := ⟨_, rfl⟩
  obtain ⟨y, hy⟩ : ∃ y, y = qd (a * d) (b * c) := ⟨_, rfl⟩
  rw [← hx, ← hy] at hl ⊢
  clear hx hy n1 n2 hbd ha hb hc hd hb0 hc0 hL
  obtain ⟨X, hXe, hX, c0, c1, c2, c3, hO⟩ := fr2_alloc w 96 (I a) (I b) (I c) (I d) (.string ⟨#[]⟩) (.string ⟨#[]⟩)
  have HO := Lib.hid hO
  obtain ⟨bs, hbs⟩ : ∃ bs, bs = w.heap.size := ⟨_, rfl⟩
  have hsz := hX.size
  clear hO
  go_enter Tryz.func48, Tryz.ntmps48
  go_wp2_with fail
  rw [← hbs] at c0 c1 c2 c3 HO ⊢
  have hbs2 : w.heap.size ≤ bs + 1 + 1 := by omega
  clear hXe hbs
  refine (hs.out _).mono ?_
  rintro e w1 ⟨rfl, hE1⟩
  replace c0 := hE1.cell c0
  replace c1 := hE1.cell c1
  replace c2 := hE1.cell c2
  replace c3 := hE1.cell c3
  replace HO := Lib.hid (HO.out.ext hE1)
  replace hX := hX.trans hE1
  clear hE1
  go_wp2_with fail
  generalize w1 = X at *
  have d7 : Ext X X.drew := (Ext.refl X).drew
  refine wp_region_held_tail (S := fun W => Ext X W) 11 (by kernel_rfl) (by simp) ?_
  intro inv
  refine wpAnyLH_take (i := 0) (v := .pointer (some ⟨bs, 0, none⟩)) rfl (by kernel_rfl) (fun _ _ _ h => h) (.inl ⟨by rfl, fun W hW => by go_simp⟩) d7 inv ?_
  intro inv
  go_simp
  refine wpAnyLH_take (i := 1) (v := I a) rfl (by kernel_rfl) (fun _ _ _ h => h) (.inl ⟨by rfl, fun W hW => by have z0 := hW.cell c0; go_simp⟩) d7 inv ?_
  intro inv
  go_simp
  refine wpAnyLH_take (i := 2) (v := .pointer (some ⟨bs + 1, 1, none⟩)) rfl (by kernel_rfl) (fun _ _ _ h => h) (.inl ⟨by rfl, fun W hW => by go_simp⟩) d7 inv ?_
  intro inv
  go_simp
  refine wpAnyLH_take (i := 3) (v := I d) rfl (by kernel_rfl) (fun _ _ _ h => h) (.inl ⟨by rfl, fun W hW => by have z0 := hW.cell c3; go_simp⟩) d7 inv ?_
  intro inv
  go_simp
  refine wpAnyLH_take (i := 5) (v := .pointer (some ⟨bs, 1, none⟩)) rfl (by kernel_rfl) (fun _ _ _ h => h) (.inl ⟨by rfl, fun W hW => by go_simp⟩) d7 inv ?_
  intro inv
  go_simp
  refine wpAnyLH_take (i := 6) (v := I b) rfl (by kernel_rfl) (fun _ _ _ h => h) (.inl ⟨by rfl, fun W hW => by have z0 := hW.cell c1; go_simp⟩) d7 inv ?_
  intro inv
  go_simp
  refine wpAnyLH_take (i := 7) (v := .pointer (some ⟨bs + 1, 0, none⟩)) rfl (by kernel_rfl) (fun _ _ _ h => h) (.inl ⟨by rfl, fun W hW => by go_simp⟩) d7 inv ?_
  intro inv
  go_simp
  refine wpAnyLH_take (i := 8) (v := I c) rfl (by kernel_rfl) (fun _ _ _ h => h) (.inl ⟨by rfl, fun W hW => by have z0 := hW.cell c2; go_simp⟩) d7 inv ?_
  intro inv
  go_simp
  refine wpAnyLH_one (i := 4) rfl (by kernel_rfl) (fun K0 hK0 => ?_)
  go_simp
  refine (hm1.out _ (HL.out.ext (hX.trans d7))).mono ?_
  rintro e w0 ⟨rfl, hF0⟩
  have e0 := d7.trans hF0
  refine hK0 _ _ e0 ?_
  clear hK0
  refine wpAnyLH_one (i := 9) rfl (by kernel_rfl) (fun K1 hK1 => ?_)
  go_simp
  refine (hm2.out _ (HL.out.ext (hX.trans e0))).mono ?_
  rintro e w1 ⟨rfl, hF1⟩
  have e1 := e0.trans hF1
  refine hK1 _ _ e1 ?_
  clear hK1
  refine wpAnyLH_one (i := 10) rfl (by kernel_rfl) (fun K2 hK2 => ?_)
  go_simp
  refine (hl.out _ (HL.out.ext (hX.trans e1))).mono ?_
  rintro e w2 ⟨rfl, hF2⟩
  have e2 := e1.trans hF2
  refine hK2 _ _ e2 ?_
  clear hK2
  refine wpAnyLH_end (by kernel_rfl) ?_
  replace HO := Lib.hid (HO.out.ext e2)
  replace hX := hX.trans e2
  obtain ⟨q0, q1, f0, f1, r0, r1, hF⟩ := two_end hX hbs2 HO.out (I x) (I y)
  have Hres := Lib.hid (show RetF w (.tuple #[.agg #[I x, I y], .int .i64 0]) (.returned (.tuple #[.agg #[I x, I y], .int .i64 0])) _ from ⟨rfl, hF.out⟩)
  go_wp2_with fail
  refine bodyPost_ret (v := .tuple #[.agg #[I x, I y], .int .i64 0]) (by simp [results, Tryz.results48, go_sem, r0, r1]) rfl Hres.out
theorem add_one (a c : Int) : qn (a * 1 + c * 1) (1 * 1) = a + c ∧ qd (a * 1 + c * 1) (1 * 1) = 1 := by
  unfold qn qd qg
  simp
theorem fAdd_one {a c : Int} (ha : nd a ≤ 100000000) (hc : nd c ≤ 100000000) {w : World} (hL : Laid w) :
    Calls Tryz.prog 102 #[.agg #[I a, I 1], .agg #[I c, I 1]] w fun e w' => e = .returned (.agg #[I (a + c), I 1]) ∧ Ext w w' := by
  have HL := Lib.hid hL
  have hadd := Lib.hid (fun w hL => Add_any (a := a) (b := c) (w := w) (by unfold LIM; omega) (by unfold LIM; omega) hL)
  obtain ⟨x, hx⟩ : ∃ x, x = a + c := ⟨_, rfl⟩
  rw [← hx] at hadd ⊢
  have hb1 := itoa_eq_1 1
  rw [decide_eq_true rfl] at hb1
  have HI1 := Lib.hid (show I 1 = .string ⟨#[49]⟩ by unfold I S; rw [itoa_one])
  obtain ⟨X, hXe, hX, c0, c1, c2, c3, hO⟩ := fr2_alloc w 96 (I a) (I 1) (I c) (I 1) (.string ⟨#[]⟩) (.string ⟨#[]⟩)
  have HO := Lib.hid hO
  obtain ⟨bs, hbs⟩ : ∃ bs, bs = w.heap.size := ⟨_, rfl⟩
  have hsz := hX.size
  clear hO hx ha hc hL
  go_enter Tryz.func102, Tryz.ntmps102
  go_wp2_with fail
  rw [← hbs] at c0 c1 c2 c3 HO ⊢
  have hbs2 : w.heap.size ≤ bs + 1 + 1 := by omega
  clear hXe hbs
  refine (hadd.out _ (HL.out.ext hX)).mono ?_
  rintro e w1 ⟨rfl, hE1⟩
  replace c0 := hE1.cell c0
  replace c1 := hE1.cell c1
  replace c2 := hE1.cell c2
  replace c3 := hE1.cell c3
  replace HO := Lib.hid (HO.out.ext hE1)
  replace hX := hX.trans hE1
  clear hE1
  obtain ⟨q0, q1, f0, f1, r0, r1, hF⟩ := two_end hX hbs2 HO.out (I x) (.string ⟨#[49]⟩)
  have Hres := Lib.hid (show RetF w (.agg #[I x, I 1]) (.returned (.agg #[I x, .string ⟨#[49]⟩])) _ from ⟨by rw [HI1.out], hF.out⟩)
  go_wp2_with fail
  refine bodyPost_ret (v := .agg #[I x, .string ⟨#[49]⟩]) (by simp [results, Tryz.results102, go_sem, r0, r1]) rfl Hres.out
set_option maxHeartbeats 1000000 in
theorem fAdd_any {a b c d : Int} (ha : nd a ≤ 100000000) (hb : nd b ≤ 100000000) (hc : nd c ≤ 100000000) (hd : nd d ≤ 100000000) (hb0 : 0 < b) (hd0 : 0 < d) {w : World} (hL : Laid w) :
    Calls Tryz.prog 102 #[.agg #[I a, I b], .agg #[I c, I d]] w fun e w' => e = .returned (.agg #[I (qn (a * d + c * b) (b * d)), I (qd (a * d + c * b) (b * d))]) ∧ Ext w w' := by
  by_cases h11 : b = 1 ∧ d = 1
  · obtain ⟨rfl, rfl⟩ := h11
    rw [(add_one a c).1, (add_one a c).2]
    exact fAdd_one ha hc hL
  have HL := Lib.hid hL
  have n1 := nd_mul a d
  have n2 := nd_mul c b
  have n3 := nd_mul b d
  have n4 := nd_add (a * d) (c * b)
  have hbd : 0 < b * d := Int.mul_pos hb0 hd0
  have hl := Lib.hid (fun w hL => flowest_any (n := a * d + c * b) (d := b * d) (w := w) (by unfold LIM; omega) (by unfold LIM; omega) (by omega) hL)
  have hm1 := Lib.hid (fun w hL => Mul_any (a := a) (b := d) (w := w) (by unfold LIM; omega) hL)
  have hm2 := Lib.hid (fun w hL => Mul_any (a := c) (b := b) (w := w) (by unfold LIM; omega) hL)
  have hm3 := Lib.hid (fun w hL => Mul_any (a := b) (b := d) (w := w) (by unfold LIM; omega) hL)
  have hadd := Lib.hid (fun w hL => Add_any (a := a * d) (b := c * b) (w := w) (by unfold LIM; omega) (by unfold LIM; omega) hL)
  have hb1 := Lib.hid (fboth_any (a := a) (b := b) (by unfold LIM; omega) (by unfold LIM; omega))
  have hb2 := Lib.hid (fboth_any (a := c) (b := d) (by unfold LIM; omega) (by unfold LIM; omega))
  have HP := Lib.hid (fun (h1 : (fits 9 a && fits 9 b) = true) (h2 : (fits 9 c && fits 9 d) = true) => (show (a * d).natAbs ≤ 1000000000000000000 ∧ (c * b).natAbs ≤ 1000000000000000000 ∧ (b * d).natAbs ≤ 1000000000000000000 from by
    simp only [Bool.and_eq_true] at h1 h2
    have f1 := fits_lt h1.1; have f2 := fits_lt h2.1
    have f3 := fits_lt h1.2; have f4 := fits_lt h2.2
    have g1 := Nat.mul_le_mul (Nat.le_of_lt f1) (Nat.le_of_lt f4); rw [← Int.natAbs_mul] at g1
    have g2 := Nat.mul_le_mul (Nat.le_of_lt f2) (Nat.le_of_lt f3); rw [← Int.natAbs_mul] at g2
    have g3 := Nat.mul_le_mul (Nat.le_of_lt f3) (Nat.le_of_lt f4); rw [← Int.natAbs_mul] at g3
    exact ⟨by omega, by omega, by omega⟩))
  have Hof := Lib.hid (fun (h1 : (fits 9 a && fits 9 b) = true) (h2 : (fits 9 c && fits 9 d) = true) w hL => fof_any (n := a * d + c * b) (d := b * d) (by
    have := HP.out h1 h2; omega) (by
    have := HP.out h1 h2; omega) (w := w) hL)
  have Hw := Lib.hid (fun (h1 : (fits 9 a && fits 9 b) = true) (h2 : (fits 9 c && fits 9 d) = true) => (show IntKind.i64.wrap (a * d) = a * d ∧ IntKind.i64.wrap (c * b) = c * b ∧ IntKind.i64.wrap (a * d + c * b) = a * d + c * b ∧ IntKind.i64.wrap (b * d) = b * d from by
    have := HP.out h1 h2
    exact ⟨IntWalk.i64_in _ (by omega), IntWalk.i64_in _ (by omega), IntWalk.i64_in _ (by omega), IntWalk.i64_in _ (by omega)⟩))
  obtain ⟨x, hx⟩ : ∃ x, x = qn (a * d + c * b) (b * d) := ⟨_, rfl⟩
  obtain ⟨y, hy⟩ : ∃ y, y = qd (a * d + c * b) (b * d) := ⟨_, rfl⟩
  rw [← hx, ← hy] at hl ⊢
  rw [← hx, ← hy] at Hof
  have v1 : fits 9 a = true → (if fits 9 a = true then a else 0) = a := fun h => if_pos h
  have v2 : fits 9 b = true → (if fits 9 b = true then b else 0) = b := fun h => if_pos h
  have v3 : fits 9 c = true → (if fits 9 c = true then c else 0) = c := fun h => if_pos h
  have v4 : fits 9 d = true → (if fits 9 d = true then d else 0) = d := fun h => if_pos h
  have hq1 := itoa_eq_1 b
  have hq2 := itoa_eq_1 d
  have H11 := Lib.hid h11
  clear hx hy n1 n2 n3 n4 hbd ha hb hc hd hb0 hd0 hL HP h11
  obtain ⟨X, hXe, hX, c0, c1, c2, c3, hO⟩ := fr2_alloc w 96 (I a) (I b) (I c) (I d) (.string ⟨#[]⟩) (.string ⟨#[]⟩)
  have HO := Lib.hid hO
  obtain ⟨bs, hbs⟩ : ∃ bs, bs = w.heap.size := ⟨_, rfl⟩
  have hsz := hX.size
  clear hO
  by_cases hb1' : b = 1
  · have hd1' : ¬ d = 1 := fun h => H11.out ⟨hb1', h⟩
    rw [decide_eq_true hb1'] at hq1
    rw [decide_eq_false hd1'] at hq2
    clear hb1' hd1' H11
    cases h1 : (fits 9 a && fits 9 b)
    · rw [h1] at hb1
      generalize (if fits 9 a = true then a else 0) = a' at *
      generalize (if fits 9 b = true then b else 0) = b' at *
      clear Hof Hw h1 v1 v2 v3 v4 hb2
      go_enter Tryz.func102, Tryz.ntmps102
      go_wp2_with fail
      rw [← hbs] at c0 c1 c2 c3 HO ⊢
      have hbs2 : w.heap.size ≤ bs + 1 + 1 := by omega
      clear hXe hbs
      refine (hb1.out _).mono ?_
      rintro e w1 ⟨rfl, hE1⟩
      replace c0 := hE1.cell c0
      replace c1 := hE1.cell c1
      replace c2 := hE1.cell c2
      replace c3 := hE1.cell c3
      replace HO := Lib.hid (HO.out.ext hE1)
      replace hX := hX.trans hE1
      clear hE1
      go_wp2_with fail
      generalize w1 = X at *
      have d7 : Ext X X.drew := (Ext.refl X).drew
      refine wp_region_held_tail (S := fun W => Ext X W) 17 (by kernel_rfl) (by simp) ?_
      intro inv
      refine wpAnyLH_take (i := 0) (v := .pointer (some ⟨bs, 0, none⟩)) rfl (by kernel_rfl) (fun _ _ _ h => h) (.inl ⟨by rfl, fun W hW => by go_simp⟩) d7 inv ?_
      intro inv
      go_simp
      refine wpAnyLH_take (i := 1) (v := I a) rfl (by kernel_rfl) (fun _ _ _ h => h) (.inl ⟨by rfl, fun W hW => by have z0 := hW.cell c0; go_simp⟩) d7 inv ?_
      intro inv
      go_simp
      refine wpAnyLH_take (i := 2) (v := .pointer (some ⟨bs + 1, 1, none⟩)) rfl (by kernel_rfl) (fun _ _ _ h => h) (.inl ⟨by rfl, fun W hW => by go_simp⟩) d7 inv ?_
      intro inv
      go_simp
      refine wpAnyLH_take (i := 3) (v := I d) rfl (by kernel_rfl) (fun _ _ _ h => h) (.inl ⟨by rfl, fun W hW => by have z0 := hW.cell c3; go_simp⟩) d7 inv ?_
      intro inv
      go_simp
      refine wpAnyLH_take (i := 5) (v := .pointer (some ⟨bs + 1, 0, none⟩)) rfl (by kernel_rfl) (fun _ _ _ h => h) (.inl ⟨by rfl, fun W hW => by go_simp⟩) d7 inv ?_
      intro inv
      go_simp
      refine wpAnyLH_take (i := 6) (v := I c) rfl (by kernel_rfl) (fun _ _ _ h => h) (.inl ⟨by rfl, fun W hW => by have z0 := hW.cell c2; go_simp⟩) d7 inv ?_
      intro inv
      go_simp
      refine wpAnyLH_take (i := 7) (v := .pointer (some ⟨bs, 1, none⟩)) rfl (by kernel_rfl) (fun _ _ _ h => h) (.inl ⟨by rfl, fun W hW => by go_simp⟩) d7 inv ?_
      intro inv
      go_simp
      refine wpAnyLH_take (i := 8) (v := I b) rfl (by kernel_rfl) (fun _ _ _ h => h) (.inl ⟨by rfl, fun W hW => by have z0 := hW.cell c1; go_simp⟩) d7 inv ?_
      intro inv
      go_simp
      refine wpAnyLH_take (i := 11) (v := .pointer (some ⟨bs, 1, none⟩)) rfl (by kernel_rfl) (fun _ _ _ h => h) (.inl ⟨by rfl, fun W hW => by go_simp⟩) d7 inv ?_
      intro inv
      go_simp
      refine wpAnyLH_take (i := 12) (v := I b) rfl (by kernel_rfl) (fun _ _ _ h => h) (.inl ⟨by rfl, fun W hW => by have z0 := hW.cell c1; go_simp⟩) d7 inv ?_
      intro inv
      go_simp
      refine wpAnyLH_take (i := 13) (v := .pointer (some ⟨bs + 1, 1, none⟩)) rfl (by kernel_rfl) (fun _ _ _ h => h) (.inl ⟨by rfl, fun W hW => by go_simp⟩) d7 inv ?_
      intro inv
      go_simp
      refine wpAnyLH_take (i := 14) (v := I d) rfl (by kernel_rfl) (fun _ _ _ h => h) (.inl ⟨by rfl, fun W hW => by have z0 := hW.cell c3; go_simp⟩) d7 inv ?_
      intro inv
      go_simp
      refine wpAnyLH_one (i := 4) rfl (by kernel_rfl) (fun K0 hK0 => ?_)
      go_simp
      refine (hm1.out _ (HL.out.ext (hX.trans d7))).mono ?_
      rintro e w0 ⟨rfl, hF0⟩
      have e0 := d7.trans hF0
      refine hK0 _ _ e0 ?_
      clear hK0
      refine wpAnyLH_one (i := 9) rfl (by kernel_rfl) (fun K1 hK1 => ?_)
      go_simp
      refine (hm2.out _ (HL.out.ext (hX.trans e0))).mono ?_
      rintro e w1 ⟨rfl, hF1⟩
      have e1 := e0.trans hF1
      refine hK1 _ _ e1 ?_
      clear hK1
      refine wpAnyLH_one (i := 10) rfl (by kernel_rfl) (fun K2 hK2 => ?_)
      go_simp
      refine (hadd.out _ (HL.out.ext (hX.trans e1))).mono ?_
      rintro e w2 ⟨rfl, hF2⟩
      have e2 := e1.trans hF2
      refine hK2 _ _ e2 ?_
      clear hK2
      refine wpAnyLH_one (i := 15) rfl (by kernel_rfl) (fun K3 hK3 => ?_)
      go_simp
      refine (hm3.out _ (HL.out.ext (hX.trans e2))).mono ?_
      rintro e w3 ⟨rfl, hF3⟩
      have e3 := e2.trans hF3
      refine hK3 _ _ e3 ?_
      clear hK3
      refine wpAnyLH_one (i := 16) rfl (by kernel_rfl) (fun K4 hK4 => ?_)
      go_simp
      refine (hl.out _ (HL.out.ext (hX.trans e3))).mono ?_
      rintro e w4 ⟨rfl, hF4⟩
      have e4 := e3.trans hF4
      refine hK4 _ _ e4 ?_
      clear hK4
      refine wpAnyLH_end (by kernel_rfl) ?_
      replace HO := Lib.hid (HO.out.ext e4)
      replace hX := hX.trans e4
      obtain ⟨q0, q1, f0, f1, r0, r1, hF⟩ := two_end hX hbs2 HO.out (I x) (I y)
      have Hres := Lib.hid (show RetF w (.agg #[I x, I y]) (.returned (.agg #[I x, I y])) _ from ⟨rfl, hF.out⟩)
      go_wp2_with fail
      refine bodyPost_ret (v := .agg #[I x, I y]) (by simp [results, Tryz.results102, go_sem, r0, r1]) rfl Hres.out
    · rw [h1] at hb1
      cases h2 : (fits 9 c && fits 9 d)
      · rw [h2] at hb2
        generalize (if fits 9 a = true then a else 0) = a' at *
        generalize (if fits 9 b = true then b else 0) = b' at *
        generalize (if fits 9 c = true then c else 0) = c' at *
        generalize (if fits 9 d = true then d else 0) = d' at *
        clear Hof Hw h1 h2 v1 v2 v3 v4
        go_enter Tryz.func102, Tryz.ntmps102
        go_wp2_with fail
        rw [← hbs] at c0 c1 c2 c3 HO ⊢
        have hbs2 : w.heap.size ≤ bs + 1 + 1 := by omega
        clear hXe hbs
        refine (hb1.out _).mono ?_
        rintro e w1 ⟨rfl, hE1⟩
        replace c0 := hE1.cell c0
        replace c1 := hE1.cell c1
        replace c2 := hE1.cell c2
        replace c3 := hE1.cell c3
        replace HO := Lib.hid (HO.out.ext hE1)
        replace hX := hX.trans hE1
        clear hE1
        go_wp2_with fail
        refine (hb2.out _).mono ?_
        rintro e w2 ⟨rfl, hE1⟩
        replace c0 := hE1.cell c0
        replace c1 := hE1.cell c1
        replace c2 := hE1.cell c2
        replace c3 := hE1.cell c3
        replace HO := Lib.hid (HO.out.ext hE1)
        replace hX := hX.trans hE1
        clear hE1
        go_wp2_with fail
        generalize w2 = X at *
        have d7 : Ext X X.drew := (Ext.refl X).drew
        refine wp_region_held_tail (S := fun W => Ext X W) 17 (by kernel_rfl) (by simp) ?_
        intro inv
        refine wpAnyLH_take (i := 0) (v := .pointer (some ⟨bs, 0, none⟩)) rfl (by kernel_rfl) (fun _ _ _ h => h) (.inl ⟨by rfl, fun W hW => by go_simp⟩) d7 inv ?_
        intro inv
        go_simp
        refine wpAnyLH_take (i := 1) (v := I a) rfl (by kernel_rfl) (fun _ _ _ h => h) (.inl ⟨by rfl, fun W hW => by have z0 := hW.cell c0; go_simp⟩) d7 inv ?_
        intro inv
        go_simp
        refine wpAnyLH_take (i := 2) (v := .pointer (some ⟨bs + 1, 1, none⟩)) rfl (by kernel_rfl) (fun _ _ _ h => h) (.inl ⟨by rfl, fun W hW => by go_simp⟩) d7 inv ?_
        intro inv
        go_simp
        refine wpAnyLH_take (i := 3) (v := I d) rfl (by kernel_rfl) (fun _ _ _ h => h) (.inl ⟨by rfl, fun W hW => by have z0 := hW.cell c3; go_simp⟩) d7 inv ?_
        intro inv
        go_simp
        refine wpAnyLH_take (i := 5) (v := .pointer (some ⟨bs + 1, 0, none⟩)) rfl (by kernel_rfl) (fun _ _ _ h => h) (.inl ⟨by rfl, fun W hW => by go_simp⟩) d7 inv ?_
        intro inv
        go_simp
        refine wpAnyLH_take (i := 6) (v := I c) rfl (by kernel_rfl) (fun _ _ _ h => h) (.inl ⟨by rfl, fun W hW => by have z0 := hW.cell c2; go_simp⟩) d7 inv ?_
        intro inv
        go_simp
        refine wpAnyLH_take (i := 7) (v := .pointer (some ⟨bs, 1, none⟩)) rfl (by kernel_rfl) (fun _ _ _ h => h) (.inl ⟨by rfl, fun W hW => by go_simp⟩) d7 inv ?_
        intro inv
        go_simp
        refine wpAnyLH_take (i := 8) (v := I b) rfl (by kernel_rfl) (fun _ _ _ h => h) (.inl ⟨by rfl, fun W hW => by have z0 := hW.cell c1; go_simp⟩) d7 inv ?_
        intro inv
        go_simp
        refine wpAnyLH_take (i := 11) (v := .pointer (some ⟨bs, 1, none⟩)) rfl (by kernel_rfl) (fun _ _ _ h => h) (.inl ⟨by rfl, fun W hW => by go_simp⟩) d7 inv ?_
        intro inv
        go_simp
        refine wpAnyLH_take (i := 12) (v := I b) rfl (by kernel_rfl) (fun _ _ _ h => h) (.inl ⟨by rfl, fun W hW => by have z0 := hW.cell c1; go_simp⟩) d7 inv ?_
        intro inv
        go_simp
        refine wpAnyLH_take (i := 13) (v := .pointer (some ⟨bs + 1, 1, none⟩)) rfl (by kernel_rfl) (fun _ _ _ h => h) (.inl ⟨by rfl, fun W hW => by go_simp⟩) d7 inv ?_
        intro inv
        go_simp
        refine wpAnyLH_take (i := 14) (v := I d) rfl (by kernel_rfl) (fun _ _ _ h => h) (.inl ⟨by rfl, fun W hW => by have z0 := hW.cell c3; go_simp⟩) d7 inv ?_
        intro inv
        go_simp
        refine wpAnyLH_one (i := 4) rfl (by kernel_rfl) (fun K0 hK0 => ?_)
        go_simp
        refine (hm1.out _ (HL.out.ext (hX.trans d7))).mono ?_
        rintro e w0 ⟨rfl, hF0⟩
        have e0 := d7.trans hF0
        refine hK0 _ _ e0 ?_
        clear hK0
        refine wpAnyLH_one (i := 9) rfl (by kernel_rfl) (fun K1 hK1 => ?_)
        go_simp
        refine (hm2.out _ (HL.out.ext (hX.trans e0))).mono ?_
        rintro e w1 ⟨rfl, hF1⟩
        have e1 := e0.trans hF1
        refine hK1 _ _ e1 ?_
        clear hK1
        refine wpAnyLH_one (i := 10) rfl (by kernel_rfl) (fun K2 hK2 => ?_)
        go_simp
        refine (hadd.out _ (HL.out.ext (hX.trans e1))).mono ?_
        rintro e w2 ⟨rfl, hF2⟩
        have e2 := e1.trans hF2
        refine hK2 _ _ e2 ?_
        clear hK2
        refine wpAnyLH_one (i := 15) rfl (by kernel_rfl) (fun K3 hK3 => ?_)
        go_simp
        refine (hm3.out _ (HL.out.ext (hX.trans e2))).mono ?_
        rintro e w3 ⟨rfl, hF3⟩
        have e3 := e2.trans hF3
        refine hK3 _ _ e3 ?_
        clear hK3
        refine wpAnyLH_one (i := 16) rfl (by kernel_rfl) (fun K4 hK4 => ?_)
        go_simp
        refine (hl.out _ (HL.out.ext (hX.trans e3))).mono ?_
        rintro e w4 ⟨rfl, hF4⟩
        have e4 := e3.trans hF4
        refine hK4 _ _ e4 ?_
        clear hK4
        refine wpAnyLH_end (by kernel_rfl) ?_
        replace HO := Lib.hid (HO.out.ext e4)
        replace hX := hX.trans e4
        obtain ⟨q0, q1, f0, f1, r0, r1, hF⟩ := two_end hX hbs2 HO.out (I x) (I y)
        have Hres := Lib.hid (show RetF w (.agg #[I x, I y]) (.returned (.agg #[I x, I y])) _ from ⟨rfl, hF.out⟩)
        go_wp2_with fail
        refine bodyPost_ret (v := .agg #[I x, I y]) (by simp [results, Tryz.results102, go_sem, r0, r1]) rfl Hres.out
      · rw [h2] at hb2
        obtain ⟨hw1, hw2, hw3, hw4⟩ := Hw.out h1 h2
        have hof := Lib.hid (Hof.out h1 h2)
        simp only [Bool.and_eq_true] at h1 h2
        rw [v1 h1.1, v2 h1.2] at hb1
        rw [v3 h2.1, v4 h2.2] at hb2
        clear Hof Hw h1 h2 v1 v2 v3 v4
        go_enter Tryz.func102, Tryz.ntmps102
        go_wp2_with fail
        rw [← hbs] at c0 c1 c2 c3 HO ⊢
        have hbs2 : w.heap.size ≤ bs + 1 + 1 := by omega
        clear hXe hbs
        refine (hb1.out _).mono ?_
        rintro e w1 ⟨rfl, hE1⟩
        replace c0 := hE1.cell c0
        replace c1 := hE1.cell c1
        replace c2 := hE1.cell c2
        replace c3 := hE1.cell c3
        replace HO := Lib.hid (HO.out.ext hE1)
        replace hX := hX.trans hE1
        clear hE1
        go_wp2_with fail
        refine (hb2.out _).mono ?_
        rintro e w2 ⟨rfl, hE1⟩
        replace c0 := hE1.cell c0
        replace c1 := hE1.cell c1
        replace c2 := hE1.cell c2
        replace c3 := hE1.cell c3
        replace HO := Lib.hid (HO.out.ext hE1)
        replace hX := hX.trans hE1
        clear hE1
        go_wp2_with fail
        refine (hof.out _ (HL.out.ext hX)).mono ?_
        rintro e w3 ⟨rfl, hE1⟩
        replace c0 := hE1.cell c0
        replace c1 := hE1.cell c1
        replace c2 := hE1.cell c2
        replace c3 := hE1.cell c3
        replace HO := Lib.hid (HO.out.ext hE1)
        replace hX := hX.trans hE1
        clear hE1
        obtain ⟨q0, q1, f0, f1, r0, r1, hF⟩ := two_end hX hbs2 HO.out (I x) (I y)
        have Hres := Lib.hid (show RetF w (.agg #[I x, I y]) (.returned (.agg #[I x, I y])) _ from ⟨rfl, hF.out⟩)
        go_wp2_with fail
        refine bodyPost_ret (v := .agg #[I x, I y]) (by simp [results, Tryz.results102, go_sem, r0, r1]) rfl Hres.out
  · rw [decide_eq_false hb1'] at hq1
    clear hb1' H11 hq2
    cases h1 : (fits 9 a && fits 9 b)
    · rw [h1] at hb1
      generalize (if fits 9 a = true then a else 0) = a' at *
      generalize (if fits 9 b = true then b else 0) = b' at *
      clear Hof Hw h1 v1 v2 v3 v4 hb2
      go_enter Tryz.func102, Tryz.ntmps102
      go_wp2_with fail
      rw [← hbs] at c0 c1 c2 c3 HO ⊢
      have hbs2 : w.heap.size ≤ bs + 1 + 1 := by omega
      clear hXe hbs
      refine (hb1.out _).mono ?_
      rintro e w1 ⟨rfl, hE1⟩
      replace c0 := hE1.cell c0
      replace c1 := hE1.cell c1
      replace c2 := hE1.cell c2
      replace c3 := hE1.cell c3
      replace HO := Lib.hid (HO.out.ext hE1)
      replace hX := hX.trans hE1
      clear hE1
      go_wp2_with fail
      generalize w1 = X at *
      have d7 : Ext X X.drew := (Ext.refl X).drew
      refine wp_region_held_tail (S := fun W => Ext X W) 17 (by kernel_rfl) (by simp) ?_
      intro inv
      refine wpAnyLH_take (i := 0) (v := .pointer (some ⟨bs, 0, none⟩)) rfl (by kernel_rfl) (fun _ _ _ h => h) (.inl ⟨by rfl, fun W hW => by go_simp⟩) d7 inv ?_
      intro inv
      go_simp
      refine wpAnyLH_take (i := 1) (v := I a) rfl (by kernel_rfl) (fun _ _ _ h => h) (.inl ⟨by rfl, fun W hW => by have z0 := hW.cell c0; go_simp⟩) d7 inv ?_
      intro inv
      go_simp
      refine wpAnyLH_take (i := 2) (v := .pointer (some ⟨bs + 1, 1, none⟩)) rfl (by kernel_rfl) (fun _ _ _ h => h) (.inl ⟨by rfl, fun W hW => by go_simp⟩) d7 inv ?_
      intro inv
      go_simp
      refine wpAnyLH_take (i := 3) (v := I d) rfl (by kernel_rfl) (fun _ _ _ h => h) (.inl ⟨by rfl, fun W hW => by have z0 := hW.cell c3; go_simp⟩) d7 inv ?_
      intro inv
      go_simp
      refine wpAnyLH_take (i := 5) (v := .pointer (some ⟨bs + 1, 0, none⟩)) rfl (by kernel_rfl) (fun _ _ _ h => h) (.inl ⟨by rfl, fun W hW => by go_simp⟩) d7 inv ?_
      intro inv
      go_simp
      refine wpAnyLH_take (i := 6) (v := I c) rfl (by kernel_rfl) (fun _ _ _ h => h) (.inl ⟨by rfl, fun W hW => by have z0 := hW.cell c2; go_simp⟩) d7 inv ?_
      intro inv
      go_simp
      refine wpAnyLH_take (i := 7) (v := .pointer (some ⟨bs, 1, none⟩)) rfl (by kernel_rfl) (fun _ _ _ h => h) (.inl ⟨by rfl, fun W hW => by go_simp⟩) d7 inv ?_
      intro inv
      go_simp
      refine wpAnyLH_take (i := 8) (v := I b) rfl (by kernel_rfl) (fun _ _ _ h => h) (.inl ⟨by rfl, fun W hW => by have z0 := hW.cell c1; go_simp⟩) d7 inv ?_
      intro inv
      go_simp
      refine wpAnyLH_take (i := 11) (v := .pointer (some ⟨bs, 1, none⟩)) rfl (by kernel_rfl) (fun _ _ _ h => h) (.inl ⟨by rfl, fun W hW => by go_simp⟩) d7 inv ?_
      intro inv
      go_simp
      refine wpAnyLH_take (i := 12) (v := I b) rfl (by kernel_rfl) (fun _ _ _ h => h) (.inl ⟨by rfl, fun W hW => by have z0 := hW.cell c1; go_simp⟩) d7 inv ?_
      intro inv
      go_simp
      refine wpAnyLH_take (i := 13) (v := .pointer (some ⟨bs + 1, 1, none⟩)) rfl (by kernel_rfl) (fun _ _ _ h => h) (.inl ⟨by rfl, fun W hW => by go_simp⟩) d7 inv ?_
      intro inv
      go_simp
      refine wpAnyLH_take (i := 14) (v := I d) rfl (by kernel_rfl) (fun _ _ _ h => h) (.inl ⟨by rfl, fun W hW => by have z0 := hW.cell c3; go_simp⟩) d7 inv ?_
      intro inv
      go_simp
      refine wpAnyLH_one (i := 4) rfl (by kernel_rfl) (fun K0 hK0 => ?_)
      go_simp
      refine (hm1.out _ (HL.out.ext (hX.trans d7))).mono ?_
      rintro e w0 ⟨rfl, hF0⟩
      have e0 := d7.trans hF0
      refine hK0 _ _ e0 ?_
      clear hK0
      refine wpAnyLH_one (i := 9) rfl (by kernel_rfl) (fun K1 hK1 => ?_)
      go_simp
      refine (hm2.out _ (HL.out.ext (hX.trans e0))).mono ?_
      rintro e w1 ⟨rfl, hF1⟩
      have e1 := e0.trans hF1
      refine hK1 _ _ e1 ?_
      clear hK1
      refine wpAnyLH_one (i := 10) rfl (by kernel_rfl) (fun K2 hK2 => ?_)
      go_simp
      refine (hadd.out _ (HL.out.ext (hX.trans e1))).mono ?_
      rintro e w2 ⟨rfl, hF2⟩
      have e2 := e1.trans hF2
      refine hK2 _ _ e2 ?_
      clear hK2
      refine wpAnyLH_one (i := 15) rfl (by kernel_rfl) (fun K3 hK3 => ?_)
      go_simp
      refine (hm3.out _ (HL.out.ext (hX.trans e2))).mono ?_
      rintro e w3 ⟨rfl, hF3⟩
      have e3 := e2.trans hF3
      refine hK3 _ _ e3 ?_
      clear hK3
      refine wpAnyLH_one (i := 16) rfl (by kernel_rfl) (fun K4 hK4 => ?_)
      go_simp
      refine (hl.out _ (HL.out.ext (hX.trans e3))).mono ?_
      rintro e w4 ⟨rfl, hF4⟩
      have e4 := e3.trans hF4
      refine hK4 _ _ e4 ?_
      clear hK4
      refine wpAnyLH_end (by kernel_rfl) ?_
      replace HO := Lib.hid (HO.out.ext e4)
      replace hX := hX.trans e4
      obtain ⟨q0, q1, f0, f1, r0, r1, hF⟩ := two_end hX hbs2 HO.out (I x) (I y)
      have Hres := Lib.hid (show RetF w (.agg #[I x, I y]) (.returned (.agg #[I x, I y])) _ from ⟨rfl, hF.out⟩)
      go_wp2_with fail
      refine bodyPost_ret (v := .agg #[I x, I y]) (by simp [results, Tryz.results102, go_sem, r0, r1]) rfl Hres.out
    · rw [h1] at hb1
      cases h2 : (fits 9 c && fits 9 d)
      · rw [h2] at hb2
        generalize (if fits 9 a = true then a else 0) = a' at *
        generalize (if fits 9 b = true then b else 0) = b' at *
        generalize (if fits 9 c = true then c else 0) = c' at *
        generalize (if fits 9 d = true then d else 0) = d' at *
        clear Hof Hw h1 h2 v1 v2 v3 v4
        go_enter Tryz.func102, Tryz.ntmps102
        go_wp2_with fail
        rw [← hbs] at c0 c1 c2 c3 HO ⊢
        have hbs2 : w.heap.size ≤ bs + 1 + 1 := by omega
        clear hXe hbs
        refine (hb1.out _).mono ?_
        rintro e w1 ⟨rfl, hE1⟩
        replace c0 := hE1.cell c0
        replace c1 := hE1.cell c1
        replace c2 := hE1.cell c2
        replace c3 := hE1.cell c3
        replace HO := Lib.hid (HO.out.ext hE1)
        replace hX := hX.trans hE1
        clear hE1
        go_wp2_with fail
        refine (hb2.out _).mono ?_
        rintro e w2 ⟨rfl, hE1⟩
        replace c0 := hE1.cell c0
        replace c1 := hE1.cell c1
        replace c2 := hE1.cell c2
        replace c3 := hE1.cell c3
        replace HO := Lib.hid (HO.out.ext hE1)
        replace hX := hX.trans hE1
        clear hE1
        go_wp2_with fail
        generalize w2 = X at *
        have d7 : Ext X X.drew := (Ext.refl X).drew
        refine wp_region_held_tail (S := fun W => Ext X W) 17 (by kernel_rfl) (by simp) ?_
        intro inv
        refine wpAnyLH_take (i := 0) (v := .pointer (some ⟨bs, 0, none⟩)) rfl (by kernel_rfl) (fun _ _ _ h => h) (.inl ⟨by rfl, fun W hW => by go_simp⟩) d7 inv ?_
        intro inv
        go_simp
        refine wpAnyLH_take (i := 1) (v := I a) rfl (by kernel_rfl) (fun _ _ _ h => h) (.inl ⟨by rfl, fun W hW => by have z0 := hW.cell c0; go_simp⟩) d7 inv ?_
        intro inv
        go_simp
        refine wpAnyLH_take (i := 2) (v := .pointer (some ⟨bs + 1, 1, none⟩)) rfl (by kernel_rfl) (fun _ _ _ h => h) (.inl ⟨by rfl, fun W hW => by go_simp⟩) d7 inv ?_
        intro inv
        go_simp
        refine wpAnyLH_take (i := 3) (v := I d) rfl (by kernel_rfl) (fun _ _ _ h => h) (.inl ⟨by rfl, fun W hW => by have z0 := hW.cell c3; go_simp⟩) d7 inv ?_
        intro inv
        go_simp
        refine wpAnyLH_take (i := 5) (v := .pointer (some ⟨bs + 1, 0, none⟩)) rfl (by kernel_rfl) (fun _ _ _ h => h) (.inl ⟨by rfl, fun W hW => by go_simp⟩) d7 inv ?_
        intro inv
        go_simp
        refine wpAnyLH_take (i := 6) (v := I c) rfl (by kernel_rfl) (fun _ _ _ h => h) (.inl ⟨by rfl, fun W hW => by have z0 := hW.cell c2; go_simp⟩) d7 inv ?_
        intro inv
        go_simp
        refine wpAnyLH_take (i := 7) (v := .pointer (some ⟨bs, 1, none⟩)) rfl (by kernel_rfl) (fun _ _ _ h => h) (.inl ⟨by rfl, fun W hW => by go_simp⟩) d7 inv ?_
        intro inv
        go_simp
        refine wpAnyLH_take (i := 8) (v := I b) rfl (by kernel_rfl) (fun _ _ _ h => h) (.inl ⟨by rfl, fun W hW => by have z0 := hW.cell c1; go_simp⟩) d7 inv ?_
        intro inv
        go_simp
        refine wpAnyLH_take (i := 11) (v := .pointer (some ⟨bs, 1, none⟩)) rfl (by kernel_rfl) (fun _ _ _ h => h) (.inl ⟨by rfl, fun W hW => by go_simp⟩) d7 inv ?_
        intro inv
        go_simp
        refine wpAnyLH_take (i := 12) (v := I b) rfl (by kernel_rfl) (fun _ _ _ h => h) (.inl ⟨by rfl, fun W hW => by have z0 := hW.cell c1; go_simp⟩) d7 inv ?_
        intro inv
        go_simp
        refine wpAnyLH_take (i := 13) (v := .pointer (some ⟨bs + 1, 1, none⟩)) rfl (by kernel_rfl) (fun _ _ _ h => h) (.inl ⟨by rfl, fun W hW => by go_simp⟩) d7 inv ?_
        intro inv
        go_simp
        refine wpAnyLH_take (i := 14) (v := I d) rfl (by kernel_rfl) (fun _ _ _ h => h) (.inl ⟨by rfl, fun W hW => by have z0 := hW.cell c3; go_simp⟩) d7 inv ?_
        intro inv
        go_simp
        refine wpAnyLH_one (i := 4) rfl (by kernel_rfl) (fun K0 hK0 => ?_)
        go_simp
        refine (hm1.out _ (HL.out.ext (hX.trans d7))).mono ?_
        rintro e w0 ⟨rfl, hF0⟩
        have e0 := d7.trans hF0
        refine hK0 _ _ e0 ?_
        clear hK0
        refine wpAnyLH_one (i := 9) rfl (by kernel_rfl) (fun K1 hK1 => ?_)
        go_simp
        refine (hm2.out _ (HL.out.ext (hX.trans e0))).mono ?_
        rintro e w1 ⟨rfl, hF1⟩
        have e1 := e0.trans hF1
        refine hK1 _ _ e1 ?_
        clear hK1
        refine wpAnyLH_one (i := 10) rfl (by kernel_rfl) (fun K2 hK2 => ?_)
        go_simp
        refine (hadd.out _ (HL.out.ext (hX.trans e1))).mono ?_
        rintro e w2 ⟨rfl, hF2⟩
        have e2 := e1.trans hF2
        refine hK2 _ _ e2 ?_
        clear hK2
        refine wpAnyLH_one (i := 15) rfl (by kernel_rfl) (fun K3 hK3 => ?_)
        go_simp
        refine (hm3.out _ (HL.out.ext (hX.trans e2))).mono ?_
        rintro e w3 ⟨rfl, hF3⟩
        have e3 := e2.trans hF3
        refine hK3 _ _ e3 ?_
        clear hK3
        refine wpAnyLH_one (i := 16) rfl (by kernel_rfl) (fun K4 hK4 => ?_)
        go_simp
        refine (hl.out _ (HL.out.ext (hX.trans e3))).mono ?_
        rintro e w4 ⟨rfl, hF4⟩
        have e4 := e3.trans hF4
        refine hK4 _ _ e4 ?_
        clear hK4
        refine wpAnyLH_end (by kernel_rfl) ?_
        replace HO := Lib.hid (HO.out.ext e4)
        replace hX := hX.trans e4
        obtain ⟨q0, q1, f0, f1, r0, r1, hF⟩ := two_end hX hbs2 HO.out (I x) (I y)
        have Hres := Lib.hid (show RetF w (.agg #[I x, I y]) (.returned (.agg #[I x, I y])) _ from ⟨rfl, hF.out⟩)
        go_wp2_with fail
        refine bodyPost_ret (v := .agg #[I x, I y]) (by simp [results, Tryz.results102, go_sem, r0, r1]) rfl Hres.out
      · rw [h2] at hb2
        obtain ⟨hw1, hw2, hw3, hw4⟩ := Hw.out h1 h2
        have hof := Lib.hid (Hof.out h1 h2)
        simp only [Bool.and_eq_true] at h1 h2
        rw [v1 h1.1, v2 h1.2] at hb1
        rw [v3 h2.1, v4 h2.2] at hb2
        clear Hof Hw h1 h2 v1 v2 v3 v4
        go_enter Tryz.func102, Tryz.ntmps102
        go_wp2_with fail
        rw [← hbs] at c0 c1 c2 c3 HO ⊢
        have hbs2 : w.heap.size ≤ bs + 1 + 1 := by omega
        clear hXe hbs
        refine (hb1.out _).mono ?_
        rintro e w1 ⟨rfl, hE1⟩
        replace c0 := hE1.cell c0
        replace c1 := hE1.cell c1
        replace c2 := hE1.cell c2
        replace c3 := hE1.cell c3
        replace HO := Lib.hid (HO.out.ext hE1)
        replace hX := hX.trans hE1
        clear hE1
        go_wp2_with fail
        refine (hb2.out _).mono ?_
        rintro e w2 ⟨rfl, hE1⟩
        replace c0 := hE1.cell c0
        replace c1 := hE1.cell c1
        replace c2 := hE1.cell c2
        replace c3 := hE1.cell c3
        replace HO := Lib.hid (HO.out.ext hE1)
        replace hX := hX.trans hE1
        clear hE1
        go_wp2_with fail
        refine (hof.out _ (HL.out.ext hX)).mono ?_
        rintro e w3 ⟨rfl, hE1⟩
        replace c0 := hE1.cell c0
        replace c1 := hE1.cell c1
        replace c2 := hE1.cell c2
        replace c3 := hE1.cell c3
        replace HO := Lib.hid (HO.out.ext hE1)
        replace hX := hX.trans hE1
        clear hE1
        obtain ⟨q0, q1, f0, f1, r0, r1, hF⟩ := two_end hX hbs2 HO.out (I x) (I y)
        have Hres := Lib.hid (show RetF w (.agg #[I x, I y]) (.returned (.agg #[I x, I y])) _ from ⟨rfl, hF.out⟩)
        go_wp2_with fail
        refine bodyPost_ret (v := .agg #[I x, I y]) (by simp [results, Tryz.results102, go_sem, r0, r1]) rfl Hres.out
theorem fSub_any {a b c d : Int} (ha : nd a ≤ 100000000) (hb : nd b ≤ 100000000) (hc : nd c ≤ 100000000) (hd : nd d ≤ 100000000) (hb0 : 0 < b) (hd0 : 0 < d) {w : World} (hL : Laid w) :
    Calls Tryz.prog 50 #[.agg #[I a, I b], .agg #[I c, I d]] w fun e w' => e = .returned (.agg #[I (qn (a * d - c * b) (b * d)), I (qd (a * d - c * b) (b * d))]) ∧ Ext w w' := by
  have HL := Lib.hid hL
  have hN := Lib.hid (fun w (_ : Laid w) => fNeg_any (a := c) (b := d) (by unfold LIM; omega) w)
  have hA := Lib.hid (fun w hL => fAdd_any (a := a) (b := b) (c := -c) (d := d) (w := w) ha hb (by rw [nd_neg]; exact hc) hd hb0 hd0 hL)
  rw [show a * d + -c * b = a * d - c * b by rw [Int.neg_mul]; omega] at hA
  obtain ⟨x, hx⟩ : ∃ x, x = qn (a * d - c * b) (b * d) := ⟨_, rfl⟩
  obtain ⟨y, hy⟩ : ∃ y, y = qd (a * d - c * b) (b * d) := ⟨_, rfl⟩
  rw [← hx, ← hy] at hA ⊢
  generalize -c = c' at *
  clear hx hy ha hb hc hd hb0 hd0 hL
  obtain ⟨X, hXe, hX, c0, c1, c2, c3, hO⟩ := fr2_alloc w 96 (I a) (I b) (I c) (I d) (.string ⟨#[]⟩) (.string ⟨#[]⟩)
  have HO := Lib.hid hO
  obtain ⟨bs, hbs⟩ : ∃ bs, bs = w.heap.size := ⟨_, rfl⟩
  have hsz := hX.size
  clear hO
  go_enter Tryz.func50, Tryz.ntmps50
  go_wp2_with fail
  rw [← hbs] at c0 c1 c2 c3 HO ⊢
  have hbs2 : w.heap.size ≤ bs + 1 + 1 := by omega
  clear hXe hbs
  have d7 : Ext X X.drew := (Ext.refl X).drew
  refine wp_region_held_tail (S := fun W => Ext X W) 4 (by kernel_rfl) (by simp) ?_
  intro inv
  refine wpAnyLH_take (i := 0) (v := .agg #[I a, I b]) rfl (by kernel_rfl) (fun _ _ _ h => h) (.inl ⟨by rfl, fun W hW => by have z0 := hW.cell c0; have z1 := hW.cell c1; go_simp⟩) d7 inv ?_
  intro inv
  go_simp
  refine wpAnyLH_take (i := 1) (v := .agg #[I c, I d]) rfl (by kernel_rfl) (fun _ _ _ h => h) (.inl ⟨by rfl, fun W hW => by have z0 := hW.cell c2; have z1 := hW.cell c3; go_simp⟩) d7 inv ?_
  intro inv
  go_simp
  refine wpAnyLH_one (i := 2) rfl (by kernel_rfl) (fun K0 hK0 => ?_)
  go_simp
  refine (hN.out _ (HL.out.ext (hX.trans d7))).mono ?_
  rintro e w0 ⟨rfl, hF0⟩
  have e0 := d7.trans hF0
  refine hK0 _ _ e0 ?_
  clear hK0
  refine wpAnyLH_one (i := 3) rfl (by kernel_rfl) (fun K1 hK1 => ?_)
  go_simp
  refine (hA.out _ (HL.out.ext (hX.trans e0))).mono ?_
  rintro e w1 ⟨rfl, hF1⟩
  have e1 := e0.trans hF1
  refine hK1 _ _ e1 ?_
  clear hK1
  refine wpAnyLH_end (by kernel_rfl) ?_
  replace HO := Lib.hid (HO.out.ext e1)
  replace hX := hX.trans e1
  obtain ⟨q0, q1, f0, f1, r0, r1, hF⟩ := two_end hX hbs2 HO.out (I x) (I y)
  have Hres := Lib.hid (show RetF w (.agg #[I x, I y]) (.returned (.agg #[I x, I y])) _ from ⟨rfl, hF.out⟩)
  go_wp2_with fail
  refine bodyPost_ret (v := .agg #[I x, I y]) (by simp [results, Tryz.results50, go_sem, r0, r1]) rfl Hres.out
end Go.Proofs.YtokjolmpdfmnbaaGreatDoor
namespace Go.Proofs.YtokjolmpdfmnbaaGreatDoor
def subK (k : Int) : List Int → List Int → List Int
  | a, [] => a
  | [], _ :: _ => []
  | x :: a, y :: b => (x - k * y) :: subK k a b
@[simp] theorem subK_length (k : Int) : ∀ a b : List Int, (subK k a b).length = a.length
  | a, [] => by cases a <;> rfl
  | [], _ :: _ => rfl
  | x :: a, y :: b => by simp [subK, subK_length k a b]
theorem subK_nil (k : Int) (a : List Int) : subK k a [] = a := by cases a <;> rfl
theorem subK_get (k : Int) : ∀ (a b : List Int) (i : Nat) (h : i < a.length) (_ : b.length ≤ i), (subK k a b)[i]'(by simpa using h) = a[i]
  | a, [], i, h, _ => by simp only [subK_nil]
  | [], _ :: _, i, h, _ => by cases h
  | x :: a, y :: b, 0, h, hb => by simp at hb
  | x :: a, y :: b, i + 1, h, hb => by
    simp only [subK, List.getElem_cons_succ]
    exact subK_get k a b i (by simpa using h) (by simpa using hb)
theorem subK_step (k : Int) : ∀ (a b : List Int) (i : Nat) (hb : i < b.length) (h : i < a.length), subK k a (b.take (i + 1)) = (subK k a (b.take i)).set i (a[i] - k * b[i])
  | a, [], i, hb, h => by cases hb
  | [], _ :: _, i, hb, h => by cases h
  | x :: a, y :: b, 0, hb, h => by simp [subK, subK_nil]
  | x :: a, y :: b, i + 1, hb, h => by
    simp only [List.take_succ_cons, subK, List.set_cons_succ, List.getElem_cons_succ]
    rw [subK_step k a b i (by simpa using hb) (by simpa using h)]
theorem subK_zero : ∀ (a b : List Int), b.length ≤ a.length → subK 0 a b = a
  | a, [], _ => subK_nil 0 a
  | [], _ :: _, h => by simp at h
  | x :: a, y :: b, h => by simp only [subK, Int.zero_mul, Int.sub_zero]; rw [subK_zero a b (by simpa using h)]
theorem subK_getD (k : Int) : ∀ (a b : List Int) (c : Nat), b.length ≤ a.length → (subK k a b).getD c 0 = a.getD c 0 - k * b.getD c 0
  | a, [], c, _ => by simp [subK_nil]
  | [], _ :: _, _, h => by simp at h
  | x :: a, y :: b, 0, _ => by simp [subK]
  | x :: a, y :: b, c + 1, h => by
    simp only [subK, List.getD_cons_succ]
    exact subK_getD k a b c (by simpa using h)
abbrev Ln := List Int × List Int
def lsub (k : Int) (a b : Ln) : Ln := (subK k a.1 b.1, subK k a.2 b.2)
def lneg (a : Ln) : Ln := (a.1.map (fun z => -z), a.2.map (fun z => -z))
end Go.Proofs.YtokjolmpdfmnbaaGreatDoor
namespace Go.Proofs.YtokjolmpdfmnbaaGreatDoor
open Go.RowKit Go.Sort
structure Chg (R : Nat → Prop) (w w' : World) : Prop where
  os : w'.os = w.os
  tape : w'.tape = w.tape
  output : w'.output = w.output
  size : w.heap.size ≤ w'.heap.size
  block : ∀ k, k < w.heap.size → ¬ R k → w'.heap[k]? = w.heap[k]?
theorem Chg.of_ext {R : Nat → Prop} {w w' : World} (h : Ext w w') : Chg R w w' := ⟨Below.os h, Below.tape h, Below.output h, h.size, fun k hk _ => h.block k hk⟩
theorem Chg.refl (R : Nat → Prop) (w : World) : Chg R w w := .of_ext (Ext.refl w)
theorem Chg.of_grown {R : Nat → Prop} {w w' : World} {g : Nat} (h : w.grownBy w' (some g)) (hg : R g) : Chg R w w' :=
  ⟨h.os, h.tape, h.output, h.size, fun k hk hR => h.block k hk (fun e => by injection e with e; subst e; exact hR hg)⟩
theorem Chg.trans {R : Nat → Prop} {a b c : World} (h : Chg R a b) (k : Chg R b c) : Chg R a c :=
  ⟨k.os.trans h.os, k.tape.trans h.tape, k.output.trans h.output, Nat.le_trans h.size k.size, fun i hi hR => (k.block i (Nat.lt_of_lt_of_le hi h.size) hR).trans (h.block i hi hR)⟩
theorem Chg.mono {R R' : Nat → Prop} {a b : World} (h : Chg R a b) (hR : ∀ k, k < a.heap.size → R k → R' k) : Chg R' a b :=
  ⟨h.os, h.tape, h.output, h.size, fun k hk hn => h.block k hk (fun hr => hn (hR k hk hr))⟩
theorem Chg.ext {R : Nat → Prop} {w0 a b : World} (h : Chg R a b) (he : Ext w0 a) (hR : ∀ k, R k → w0.heap.size ≤ k) : Ext w0 b :=
  Ext.mk' ⟨h.os.trans (Below.os he), h.tape.trans (Below.tape he), h.output.trans (Below.output he), Nat.le_trans he.size h.size, fun k hk =>
    (h.block k (Nat.lt_of_lt_of_le hk he.size) (fun hr => by have := hR k hr; omega)).trans (he.block k hk)⟩
theorem Chg.cell {R : Nat → Prop} {a b : World} (h : Chg R a b) {g o : Nat} {v : Value} (hg : ¬ R g) (hc : a.cell? ⟨g, o, none⟩ = some v) : b.cell? ⟨g, o, none⟩ = some v := by
  have hb : g < a.heap.size := World.block_lt_of_cell? _ _ hc
  have := h.block g hb hg
  unfold World.cell? at *
  rw [this]; exact hc
theorem Chg.own {R : Nat → Prop} {a b : World} (h : Chg R a b) {T : TypeId} {B g cap : Nat} {xs : List Value} (hg : ¬ R g) (hO : OwnV T B a g cap xs) : OwnV T B b g cap xs := by
  obtain ⟨cur, h1, h2, h3, h4, h5, h6⟩ := hO.parts
  exact OwnV.of h1 (by rw [h.block g hO.lt.2 hg]; exact h2) h3 h4 h5 h6
theorem Chg.sl {R : Nat → Prop} {a b : World} (h : Chg R a b) {ga : Option Addr} {gb go : Nat} {xs : List Value} (hg : ¬ R gb) (hS : Sl a ga gb go xs) : Sl b ga gb go xs :=
  ⟨hS.addr, fun i x hx => h.cell hg (hS.cell i x hx)⟩
theorem Sl.alloc {w : World} {ga : Option Addr} {gb go : Nat} {xs : List Value} (h : Sl w ga gb go xs) (o : Obj) : Sl (w.alloc o) ga gb go xs := h.ext ((Ext.refl w).alloc o)
end Go.Proofs.YtokjolmpdfmnbaaGreatDoor
