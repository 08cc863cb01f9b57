/- Part 8 of the proof of the claim: contracts of the functions that it reaches, and plain laws; no condition. -/
import Derived.Test.YtokjolmpdfmnbaaGreatDoorV07
namespace Go.Proofs.YtokjolmpdfmnbaaGreatDoor
open Go.RowKit Go.Sort
def fits (m : Nat) (z : Int) : Bool := decide ((Lib.itoa z).length ≤ m)
theorem little_any {z : Int} {m : Nat} (hn : nd z ≤ LIM) (hm : m ≤ 18) (w : World) :
    Calls Tryz.prog 140 #[I z, .int .i64 m] w fun e w' => e = .returned (.tuple #[.int .i64 (if fits m z then z else 0), .bool (fits m z)]) ∧ Ext w w' := by
  by_cases h : (Lib.itoa z).length ≤ m
  · have e : fits m z = true := decide_eq_true h
    rw [e]; exact little_yes h hm w
  · have e : fits m z = false := decide_eq_false h
    rw [e]; exact little_no hn (by omega) hm w
theorem fits_lt {m : Nat} {z : Int} (h : fits m z = true) : z.natAbs < 10 ^ m := by
  refine lt_pow_of_nd (k := m) ?_
  have := of_decide_eq_true h
  rw [itoa_length] at this; unfold nd at this; omega
theorem split_any {z : Int} (hl : nd z ≤ LIM) (w : World) : Calls Tryz.prog 138 #[I z] w fun e w' => e = .returned (.tuple #[.bool (decide (z < 0)), D z.natAbs]) ∧ Ext w w' := by
  by_cases hz : z < 0
  · rw [decide_eq_true hz]; exact split_neg hz hl w
  · rw [decide_eq_false hz]; exact split_pos (by omega) w
theorem neg_or (z : Int) : (z < 0 ∧ decide (z < 0) = true) ∨ (0 ≤ z ∧ decide (z < 0) = false) := by
  by_cases h : z < 0
  · exact .inl ⟨h, decide_eq_true h⟩
  · exact .inr ⟨by omega, decide_eq_false h⟩
theorem Add_fast {a b : Int} (h1 : fits 18 a = true) (h2 : fits 18 b = true) (ha : nd a ≤ LIM) (hb : nd b ≤ LIM) {w : World} (hL : Laid w) :
    Calls Tryz.prog 150 #[I a, I b] w fun e w' => e = .returned (I (a + b)) ∧ Ext w w' := by
  have HL := Lib.hid hL
  have b1 := fits_lt h1
  have b2 := fits_lt h2
  have l1 := Lib.hid (little_any (z := a) (m := 18) ha (by omega))
  have l2 := Lib.hid (little_any (z := b) (m := 18) hb (by omega))
  rw [h1] at l1; rw [h2] at l2
  have hof := Lib.hid (fun w hL => wholeOf_any (n := a + b) (w := w) (by omega) (by omega) hL)
  have hwr : IntKind.i64.wrap (a + b) = a + b := by rw [IntKind.wrap_i64]; omega
  clear b1 b2 h1 h2 ha hb hL
  go_enter Tryz.func150, Tryz.ntmps150
  go_wp2_with fail
  refine (l1.out _).mono ?_
  rintro e w1 ⟨rfl, hE1⟩
  go_wp2_with fail
  refine (l2.out _).mono ?_
  rintro e w2 ⟨rfl, hE2⟩
  go_wp2_with fail
  refine (hof.out _ (HL.out.ext (hE1.trans hE2))).mono ?_
  rintro e w3 ⟨rfl, hE3⟩
  go_wp2_with fail
  go_ret
  exact ⟨rfl, (hE1.trans hE2).trans hE3⟩
set_option maxRecDepth 100000 in
set_option maxHeartbeats 2000000 in
theorem Add_slow {a b : Int} (hs : fits 18 a = false ∨ fits 18 a = true ∧ fits 18 b = false) (ha : nd a < LIM) (hb : nd b < LIM) {w : World} (hL : Laid w) :
    Calls Tryz.prog 150 #[I a, I b] w fun e w' => e = .returned (I (a + b)) ∧ Ext w w' := by
  have HL := Lib.hid hL
  have l1 := Lib.hid (little_any (z := a) (m := 18) (Nat.le_of_lt ha) (by omega))
  have l2 := Lib.hid (little_any (z := b) (m := 18) (Nat.le_of_lt hb) (by omega))
  have s1 := Lib.hid (split_any (z := a) (Nat.le_of_lt ha))
  have s2 := Lib.hid (split_any (z := b) (Nat.le_of_lt hb))
  have ha' : Lib.nDigits a.natAbs < LIM := ha
  have hb' : Lib.nDigits b.natAbs < LIM := hb
  have hadd := Lib.hid (fun w hL => dAdd_any (w := w) ha' hb' hL)
  have hcm := Lib.hid (dCompare_any (u := a.natAbs) (v := b.natAbs) (Nat.le_of_lt ha) (Nat.le_of_lt hb))
  have hj : Lib.nDigits (a.natAbs + b.natAbs) ≤ LIM := by
    have := nd_add (a.natAbs : Int) (b.natAbs : Int)
    unfold nd at this
    rw [show ((a.natAbs : Int) + (b.natAbs : Int)).natAbs = a.natAbs + b.natAbs by omega] at this
    simp only [Int.natAbs_natCast] at this
    omega
  have hj1 : Lib.nDigits (a.natAbs - b.natAbs) ≤ LIM := Nat.le_trans (nDigits_mono (Nat.sub_le _ _)) (Nat.le_of_lt ha')
  have hj2 : Lib.nDigits (b.natAbs - a.natAbs) ≤ LIM := Nat.le_trans (nDigits_mono (Nat.sub_le _ _)) (Nat.le_of_lt hb')
  have J := Lib.hid (fun c w => join_any c _ hj w)
  have J1 := Lib.hid (fun c w => join_any c _ hj1 w)
  have J2 := Lib.hid (fun c w => join_any c _ hj2 w)
  have sub1 : Hid (b.natAbs ≤ a.natAbs → ∀ w (_ : Laid w), Calls Tryz.prog 143 #[D a.natAbs, D b.natAbs] w fun e w' => e = .returned (.tuple #[D (a.natAbs - b.natAbs), .int .i64 0]) ∧ Ext w w') := Lib.hid (fun h w hL => dSub_any (w := w) ha' h hL)
  have sub2 : Hid (a.natAbs ≤ b.natAbs → ∀ w (_ : Laid w), Calls Tryz.prog 143 #[D b.natAbs, D a.natAbs] w fun e w' => e = .returned (.tuple #[D (b.natAbs - a.natAbs), .int .i64 0]) ∧ Ext w w') := Lib.hid (fun h w hL => dSub_any (w := w) hb' h hL)
  clear ha hb hL ha' hb' hj hj1 hj2
  have dv : (a.natAbs < b.natAbs ∧ cmpN a.natAbs b.natAbs = -1 ∧ Hid (∀ w (_ : Laid w), Calls Tryz.prog 143 #[D b.natAbs, D a.natAbs] w fun e w' => e = .returned (.tuple #[D (b.natAbs - a.natAbs), .int .i64 0]) ∧ Ext w w') ∧ Hid (∀ c w, Calls Tryz.prog 144 #[.bool c, D (b.natAbs - a.natAbs)] w fun e w' => e = .returned (I (if c then -((b.natAbs - a.natAbs : Nat) : Int) else (b.natAbs - a.natAbs : Nat))) ∧ Ext w w'))
      ∨ (b.natAbs ≤ a.natAbs ∧ 0 ≤ cmpN a.natAbs b.natAbs ∧ Hid (∀ w (_ : Laid w), Calls Tryz.prog 143 #[D a.natAbs, D b.natAbs] w fun e w' => e = .returned (.tuple #[D (a.natAbs - b.natAbs), .int .i64 0]) ∧ Ext w w') ∧ Hid (∀ c w, Calls Tryz.prog 144 #[.bool c, D (a.natAbs - b.natAbs)] w fun e w' => e = .returned (I (if c then -((a.natAbs - b.natAbs : Nat) : Int) else (a.natAbs - b.natAbs : Nat))) ∧ Ext w w')) := by
    unfold cmpN
    by_cases h : a.natAbs < b.natAbs
    · exact .inl ⟨h, by rw [if_pos h], Lib.hid (sub2.out (Nat.le_of_lt h)), J2⟩
    · exact .inr ⟨by omega, by rw [if_neg h]; split <;> omega, Lib.hid (sub1.out (by omega)), J1⟩
  clear sub1 sub2 J1 J2
  generalize cmpN a.natAbs b.natAbs = cc at *
  have hE := Ext.refl w
  rcases neg_or a with ⟨ga, ea⟩ | ⟨ga, ea⟩ <;> rcases neg_or b with ⟨gb, eb⟩ | ⟨gb, eb⟩ <;> rw [ea] at s1 <;> rw [eb] at s2
  case inl.inl =>
    have R := Lib.hid (show -((a.natAbs : Int) + (b.natAbs : Int)) = a + b by omega)
    clear dv ga gb ea eb hcm
    rcases hs with h1 | ⟨h1, h2⟩
    all_goals
      rw [h1] at l1
      try rw [h2] at l2
      go_enter Tryz.func150, Tryz.ntmps150
      go_wp2_with (first
        | (go_at_call 140; (first | (refine (l1.out _).mono ?_; clear l1) | refine (l2.out _).mono ?_); rintro e w1 ⟨rfl, hE1⟩; replace hE := hE.trans hE1; clear hE1)
        | (go_at_call 138; (first | (refine (s1.out _).mono ?_; clear s1) | refine (s2.out _).mono ?_); rintro e w1 ⟨rfl, hE1⟩; replace hE := hE.trans hE1; clear hE1)
        | (go_at_call 142; refine (hadd.out _ (HL.out.ext hE)).mono ?_; rintro e w1 ⟨rfl, hE1⟩; replace hE := hE.trans hE1; clear hE1)
        | (go_at_call 144; refine (J.out _ _).mono ?_; rintro e w1 ⟨rfl, hE1⟩; replace hE := hE.trans hE1; clear hE1))
      go_ret
      exact ⟨ret_val (congrArg I R.out), hE⟩
  case inr.inr =>
    have R := Lib.hid (show (a.natAbs : Int) + (b.natAbs : Int) = a + b by omega)
    clear dv ga gb ea eb hcm
    rcases hs with h1 | ⟨h1, h2⟩
    all_goals
      rw [h1] at l1
      try rw [h2] at l2
      go_enter Tryz.func150, Tryz.ntmps150
      go_wp2_with (first
        | (go_at_call 140; (first | (refine (l1.out _).mono ?_; clear l1) | refine (l2.out _).mono ?_); rintro e w1 ⟨rfl, hE1⟩; replace hE := hE.trans hE1; clear hE1)
        | (go_at_call 138; (first | (refine (s1.out _).mono ?_; clear s1) | refine (s2.out _).mono ?_); rintro e w1 ⟨rfl, hE1⟩; replace hE := hE.trans hE1; clear hE1)
        | (go_at_call 142; refine (hadd.out _ (HL.out.ext hE)).mono ?_; rintro e w1 ⟨rfl, hE1⟩; replace hE := hE.trans hE1; clear hE1)
        | (go_at_call 144; refine (J.out _ _).mono ?_; rintro e w1 ⟨rfl, hE1⟩; replace hE := hE.trans hE1; clear hE1))
      go_ret
      exact ⟨ret_val (congrArg I R.out), hE⟩
  all_goals
    clear J hadd
    rcases dv with ⟨dl, dc, Sb, Jb⟩ | ⟨dl, dc, Sb, Jb⟩
    all_goals
      first
        | have R := Lib.hid (show -((a.natAbs - b.natAbs : Nat) : Int) = a + b by omega)
        | have R := Lib.hid (show ((a.natAbs - b.natAbs : Nat) : Int) = a + b by omega)
        | have R := Lib.hid (show -((b.natAbs - a.natAbs : Nat) : Int) = a + b by omega)
        | have R := Lib.hid (show ((b.natAbs - a.natAbs : Nat) : Int) = a + b by omega)
      try rw [dc] at hcm
      clear ga gb ea eb dl
      rcases hs with h1 | ⟨h1, h2⟩
      all_goals
        rw [h1] at l1
        try rw [h2] at l2
        go_enter Tryz.func150, Tryz.ntmps150
        go_wp2_with (first
          | (go_at_call 140; (first | (refine (l1.out _).mono ?_; clear l1) | refine (l2.out _).mono ?_); rintro e w1 ⟨rfl, hE1⟩; replace hE := hE.trans hE1; clear hE1)
          | (go_at_call 138; (first | (refine (s1.out _).mono ?_; clear s1) | refine (s2.out _).mono ?_); rintro e w1 ⟨rfl, hE1⟩; replace hE := hE.trans hE1; clear hE1)
          | (go_at_call 139; refine (hcm.out _).mono ?_; rintro e w1 ⟨rfl, hE1⟩; replace hE := hE.trans hE1; clear hE1)
          | (go_at_call 143; refine (Sb.out _ (HL.out.ext hE)).mono ?_; rintro e w1 ⟨rfl, hE1⟩; replace hE := hE.trans hE1; clear hE1)
          | (go_at_call 144; refine (Jb.out _ _).mono ?_; rintro e w1 ⟨rfl, hE1⟩; replace hE := hE.trans hE1; clear hE1))
        go_ret
        exact ⟨ret_val (congrArg I R.out), hE⟩
theorem Add_any {a b : Int} (ha : nd a < LIM) (hb : nd b < LIM) {w : World} (hL : Laid w) :
    Calls Tryz.prog 150 #[I a, I b] w fun e w' => e = .returned (I (a + b)) ∧ Ext w w' := by
  cases h1 : fits 18 a
  · exact Add_slow (.inl h1) ha hb hL
  · cases h2 : fits 18 b
    · exact Add_slow (.inr ⟨h1, h2⟩) ha hb hL
    · exact Add_fast h1 h2 (Nat.le_of_lt ha) (Nat.le_of_lt hb) hL
theorem Sub_any {a b : Int} (ha : nd a < LIM) (hb : nd b < LIM) {w : World} (hL : Laid w) :
    Calls Tryz.prog 145 #[I a, I b] w fun e w' => e = .returned (I (a - b)) ∧ Ext w w' := by
  have HL := Lib.hid hL
  have H1 := Lib.hid (Neg_any (z := b) (Nat.le_of_lt hb))
  have H2 := Lib.hid (fun w hL => Add_any (a := a) (b := -b) (w := w) ha (by rw [nd_neg]; exact hb) hL)
  have R := Lib.hid (show a + -b = a - b by omega)
  clear ha hb hL
  go_enter Tryz.func145, Tryz.ntmps145
  go_wp2_with fail
  refine (H1.out _).mono ?_
  rintro e w1 ⟨rfl, hE1⟩
  go_wp2_with fail
  refine (H2.out _ (HL.out.ext hE1)).mono ?_
  rintro e w2 ⟨rfl, hE2⟩
  go_wp2_with fail
  go_ret
  exact ⟨ret_val (congrArg I R.out), hE1.trans hE2⟩
end Go.Proofs.YtokjolmpdfmnbaaGreatDoor
namespace Go.Proofs.YtokjolmpdfmnbaaGreatDoor
open Go.RowKit Go.Sort
theorem Mul_fast {a b : Int} (h1 : fits 9 a = true) (h2 : fits 9 b = true) (ha : nd a ≤ LIM) (hb : nd b ≤ LIM) {w : World} (hL : Laid w) :
    Calls Tryz.prog 100 #[I a, I b] w fun e w' => e = .returned (I (a * b)) ∧ Ext w w' := by
  have HL := Lib.hid hL
  have b1 := fits_lt h1
  have b2 := fits_lt h2
  have hab : (a * b).natAbs < 10 ^ 18 := by
    rw [Int.natAbs_mul]
    have h := Nat.mul_lt_mul'' b1 b2
    have e : (10 : Nat) ^ 9 * 10 ^ 9 = 10 ^ 18 := by rw [← Nat.pow_add]
    rw [e] at h
    exact h
  have l1 := Lib.hid (little_any (z := a) (m := 9) ha (by omega))
  have l2 := Lib.hid (little_any (z := b) (m := 9) hb (by omega))
  rw [h1] at l1; rw [h2] at l2
  obtain ⟨z, hz⟩ : ∃ z, z = a * b := ⟨_, rfl⟩
  have habz : a * b = z := hz.symm
  rw [habz] at hab ⊢
  have hof := Lib.hid (fun w hL => wholeOf_any (n := z) (w := w) (by omega) (by omega) hL)
  have hwr : IntKind.i64.wrap z = z := by rw [IntKind.wrap_i64]; omega
  clear b1 b2 h1 h2 ha hb hL hab hz
  have hE := Ext.refl w
  go_enter Tryz.func100, Tryz.ntmps100
  go_wp2_with (first
    | (go_at_call 140; (first | (refine (l1.out _).mono ?_; clear l1) | refine (l2.out _).mono ?_); rintro e w1 ⟨rfl, hE1⟩; replace hE := hE.trans hE1; clear hE1)
    | (go_at_call 95; refine (hof.out _ (HL.out.ext hE)).mono ?_; rintro e w1 ⟨rfl, hE1⟩; replace hE := hE.trans hE1; clear hE1))
  go_ret
  exact ⟨rfl, hE⟩
set_option maxRecDepth 100000 in
set_option maxHeartbeats 2000000 in
theorem Mul_slow {a b : Int} (hs : fits 9 a = false ∨ fits 9 a = true ∧ fits 9 b = false) (hab : nd a + nd b ≤ LIM) {w : World} (hL : Laid w) :
    Calls Tryz.prog 100 #[I a, I b] w fun e w' => e = .returned (I (a * b)) ∧ Ext w w' := by
  have HL := Lib.hid hL
  have l1 := Lib.hid (little_any (z := a) (m := 9) (by omega) (by omega))
  have l2 := Lib.hid (little_any (z := b) (m := 9) (by omega) (by omega))
  have s1 := Lib.hid (split_any (z := a) (by omega))
  have s2 := Lib.hid (split_any (z := b) (by omega))
  have hmul := Lib.hid (fun w hL => dMul_any (u := a.natAbs) (v := b.natAbs) (w := w) hab hL)
  have hj : Lib.nDigits (a.natAbs * b.natAbs) ≤ LIM := by
    have := nd_mul (a.natAbs : Int) (b.natAbs : Int)
    unfold nd at this hab
    rw [show ((a.natAbs : Int) * (b.natAbs : Int)).natAbs = a.natAbs * b.natAbs by rw [Int.natAbs_mul]; rfl] at this
    simp only [Int.natAbs_natCast] at this
    omega
  have J := Lib.hid (fun c w => join_any c _ hj w)
  have hval : ((a.natAbs * b.natAbs : Nat) : Int) = a.natAbs * b.natAbs := Int.natCast_mul _ _
  have R : Hid (∀ c : Bool, c = (decide (a < 0) != decide (b < 0)) → (if c then -((a.natAbs * b.natAbs : Nat) : Int) else ((a.natAbs * b.natAbs : Nat) : Int)) = a * b) := by
    refine Lib.hid fun c hc => ?_
    subst hc
    rw [hval]
    rcases neg_or a with ⟨ga, ea⟩ | ⟨ga, ea⟩ <;> rcases neg_or b with ⟨gb, eb⟩ | ⟨gb, eb⟩ <;> rw [ea, eb]
    · rw [Int.ofNat_natAbs_of_nonpos (by omega), Int.ofNat_natAbs_of_nonpos (by omega)]; simp [Int.neg_mul_neg]
    · rw [Int.ofNat_natAbs_of_nonpos (by omega), Int.natAbs_of_nonneg gb]; simp [Int.neg_mul]
    · rw [Int.ofNat_natAbs_of_nonpos (a := b) (by omega), Int.natAbs_of_nonneg ga]; simp [Int.mul_neg]
    · rw [Int.natAbs_of_nonneg gb, Int.natAbs_of_nonneg ga]; simp
  clear hab hL hj hval
  generalize a.natAbs * b.natAbs = m at *
  generalize a * b = z at *
  have hE := Ext.refl w
  rcases neg_or a with ⟨ga, ea⟩ | ⟨ga, ea⟩ <;> rcases neg_or b with ⟨gb, eb⟩ | ⟨gb, eb⟩ <;> rw [ea] at s1 R <;> rw [eb] at s2 R
  all_goals
    first
      | have R := Lib.hid (R.out true rfl)
      | have R := Lib.hid (R.out false rfl)
    clear ga gb ea eb
    rcases hs with h1 | ⟨h1, h2⟩
    all_goals
      rw [h1] at l1
      try rw [h2] at l2
      go_enter Tryz.func100, Tryz.ntmps100
      go_wp2_with (first
        | (go_at_call 140; (first | (refine (l1.out _).mono ?_; clear l1) | refine (l2.out _).mono ?_); rintro e w1 ⟨rfl, hE1⟩; replace hE := hE.trans hE1; clear hE1)
        | (go_at_call 138; (first | (refine (s1.out _).mono ?_; clear s1) | refine (s2.out _).mono ?_); rintro e w1 ⟨rfl, hE1⟩; replace hE := hE.trans hE1; clear hE1)
        | (go_at_call 148; refine (hmul.out _ (HL.out.ext hE)).mono ?_; rintro e w1 ⟨rfl, hE1⟩; replace hE := hE.trans hE1; clear hE1)
        | (go_at_call 144; refine (J.out _ _).mono ?_; rintro e w1 ⟨rfl, hE1⟩; replace hE := hE.trans hE1; clear hE1))
      go_ret
      exact ⟨ret_val (congrArg I R.out), hE⟩
theorem Mul_any {a b : Int} (hab : nd a + nd b ≤ LIM) {w : World} (hL : Laid w) :
    Calls Tryz.prog 100 #[I a, I b] w fun e w' => e = .returned (I (a * b)) ∧ Ext w w' := by
  cases h1 : fits 9 a
  · exact Mul_slow (.inl h1) hab hL
  · cases h2 : fits 9 b
    · exact Mul_slow (.inr ⟨h1, h2⟩) hab hL
    · exact Mul_fast h1 h2 (by omega) (by omega) hL
def cmpZ (a b : Int) : Int := if a < b then -1 else if b < a then 1 else 0
set_option maxRecDepth 100000 in
set_option maxHeartbeats 2000000 in
theorem Compare_any {a b : Int} (ha : nd a ≤ LIM) (hb : nd b ≤ LIM) (w : World) :
    Calls Tryz.prog 90 #[I a, I b] w fun e w' => e = .returned (.int .i64 (cmpZ a b)) ∧ Ext w w' := by
  have g1 := Lib.hid (Sign_any a)
  have g2 := Lib.hid (Sign_any b)
  have s1 := Lib.hid (split_any (z := a) ha)
  have s2 := Lib.hid (split_any (z := b) hb)
  have c1 := Lib.hid (dCompare_any (u := a.natAbs) (v := b.natAbs) ha hb)
  have c2 := Lib.hid (dCompare_any (u := b.natAbs) (v := a.natAbs) hb ha)
  clear ha hb
  have hE := Ext.refl w
  have sg : ∀ z : Int, (z < 0 ∧ z.sign = -1) ∨ (z = 0 ∧ z.sign = 0) ∨ (0 < z ∧ z.sign = 1) := fun z => by
    rcases Int.lt_trichotomy z 0 with h | h | h
    · exact .inl ⟨h, Int.sign_eq_neg_one_of_neg h⟩
    · exact .inr (.inl ⟨h, by subst h; rfl⟩)
    · exact .inr (.inr ⟨h, Int.sign_eq_one_of_pos h⟩)
  rcases sg a with ⟨ga, ea⟩ | ⟨ga, ea⟩ | ⟨ga, ea⟩ <;> rcases sg b with ⟨gb, eb⟩ | ⟨gb, eb⟩ | ⟨gb, eb⟩ <;> rw [ea] at g1 <;> rw [eb] at g2
  all_goals
    first
      | (have R : cmpZ a b = -1 := by (unfold cmpZ; rw [if_pos (by omega)])
         rw [R])
      | (have R : cmpZ a b = 1 := by (unfold cmpZ; rw [if_neg (by omega), if_pos (by omega)])
         rw [R])
      | (have R : cmpN a.natAbs b.natAbs = cmpZ a b := by
          unfold cmpZ cmpN
          (repeat' split) <;> omega
         rw [R] at c1
         clear c2)
      | (have R : cmpN b.natAbs a.natAbs = cmpZ a b := by
          unfold cmpZ cmpN
          (repeat' split) <;> omega
         rw [R] at c2
         clear c1)
    try rw [decide_eq_true ga] at s1
    try rw [decide_eq_false (p := a < 0) (by omega)] at s1
    clear ga gb ea eb R sg
    generalize cmpZ a b = cc at *
    go_enter Tryz.func90, Tryz.ntmps90
    go_wp2_with (first
        | (go_at_call 98; (first | (refine (g1.out _).mono ?_; clear g1) | refine (g2.out _).mono ?_); rintro e w1 ⟨rfl, hE1⟩; replace hE := hE.trans hE1; clear hE1)
        | (go_at_call 138; (first | (refine (s1.out _).mono ?_; clear s1) | refine (s2.out _).mono ?_); rintro e w1 ⟨rfl, hE1⟩; replace hE := hE.trans hE1; clear hE1)
        | (go_at_call 139; (first | refine (c1.out _).mono ?_ | refine (c2.out _).mono ?_); rintro e w1 ⟨rfl, hE1⟩; replace hE := hE.trans hE1; clear hE1))
    go_ret
    exact ⟨rfl, hE⟩
end Go.Proofs.YtokjolmpdfmnbaaGreatDoor
namespace Go.Proofs.YtokjolmpdfmnbaaGreatDoor
open Go.RowKit Go.Sort
theorem fdm_pos {a b q r : Int} (hb : 0 < b) (h : r + b * q = a) (h0 : 0 ≤ r) (h1 : r < b) : a.fdiv b = q ∧ a.fmod b = r := (Int.fdiv_fmod_unique hb).2 ⟨h, h0, h1⟩
theorem fdm_neg {a b q r : Int} (hb : b < 0) (h : r + b * q = a) (h0 : b < r) (h1 : r ≤ 0) : a.fdiv b = q ∧ a.fmod b = r := (Int.fdiv_fmod_unique' hb).2 ⟨h, h0, h1⟩
theorem fdm_of_t {a b : Int} (hb : b ≠ 0) :
    (a.tmod b = 0 ∧ a.fdiv b = a.tdiv b ∧ a.fmod b = a.tmod b)
    ∨ (a.tmod b < 0 ∧ b < 0 ∧ a.fdiv b = a.tdiv b ∧ a.fmod b = a.tmod b)
    ∨ (0 < a.tmod b ∧ 0 < b ∧ a.fdiv b = a.tdiv b ∧ a.fmod b = a.tmod b)
    ∨ (a.tmod b < 0 ∧ 0 < b ∧ a.fdiv b = a.tdiv b - 1 ∧ a.fmod b = a.tmod b + b)
    ∨ (0 < a.tmod b ∧ b < 0 ∧ a.fdiv b = a.tdiv b - 1 ∧ a.fmod b = a.tmod b + b) := by
  have h1 : a.tmod b + b * a.tdiv b = a := Int.tmod_add_mul_tdiv a b
  have h2 : (a.tmod b).natAbs < b.natAbs := by rw [Int.natAbs_tmod]; exact Nat.mod_lt _ (by omega)
  generalize a.tmod b = r at *
  generalize a.tdiv b = q at *
  have h3 : r + b + b * (q - 1) = a := by rw [Int.mul_sub, ← h1]; omega
  rcases Int.lt_trichotomy r 0 with hr | hr | hr
  · rcases Int.lt_or_gt_of_ne hb with hb' | hb'
    · exact .inr (.inl ⟨hr, hb', fdm_neg hb' h1 (by omega) (by omega)⟩)
    · exact .inr (.inr (.inr (.inl ⟨hr, hb', fdm_pos hb' h3 (by omega) (by omega)⟩)))
  · rcases Int.lt_or_gt_of_ne hb with hb' | hb'
    · exact .inl ⟨hr, fdm_neg hb' h1 (by omega) (by omega)⟩
    · exact .inl ⟨hr, fdm_pos hb' h1 (by omega) (by omega)⟩
  · rcases Int.lt_or_gt_of_ne hb with hb' | hb'
    · exact .inr (.inr (.inr (.inr ⟨hr, hb', fdm_neg hb' h3 (by omega) (by omega)⟩)))
    · exact .inr (.inr (.inl ⟨hr, hb', fdm_pos hb' h1 (by omega) (by omega)⟩))
set_option maxRecDepth 100000 in
set_option maxHeartbeats 2000000 in
theorem DivMod_fast {a b : Int} (h1 : fits 18 a = true) (h2 : fits 18 b = true) (ha : nd a ≤ LIM) (hb : nd b ≤ LIM) (hb0 : b ≠ 0) {w : World} (hL : Laid w) :
    Calls Tryz.prog 93 #[I a, I b] w fun e w' => e = .returned (.tuple #[I (a.fdiv b), I (a.fmod b), .int .i64 0]) ∧ Ext w w' := by
  have HL := Lib.hid hL
  have b1 := fits_lt h1
  have b2 := fits_lt h2
  have l1 := Lib.hid (little_any (z := a) (m := 18) ha (by omega))
  have l2 := Lib.hid (little_any (z := b) (m := 18) hb (by omega))
  rw [h1] at l1; rw [h2] at l2
  have hz : (Lib.itoa b == [48]) = false := by rw [itoa_eq_zero]; exact decide_eq_false hb0
  have hbz : (b == 0) = false := beq_eq_false_iff_ne.2 hb0
  have hq : (a.tdiv b).natAbs < 10 ^ 18 := by rw [Int.natAbs_tdiv]; exact Nat.lt_of_le_of_lt (Nat.div_le_self _ _) b1
  have hr : (a.tmod b).natAbs < b.natAbs := by rw [Int.natAbs_tmod]; exact Nat.mod_lt _ (by omega)
  have hd := fdm_of_t (a := a) hb0
  obtain ⟨q, hqe⟩ : ∃ q, q = a.tdiv b := ⟨_, rfl⟩
  obtain ⟨r, hre⟩ : ∃ r, r = a.tmod b := ⟨_, rfl⟩
  rw [← hqe] at hq hd
  rw [← hre] at hr hd
  have hqe' := hqe.symm
  have hre' := hre.symm
  have wq : IntKind.i64.wrap q = q := by rw [IntKind.wrap_i64]; omega
  have wr : IntKind.i64.wrap r = r := by rw [IntKind.wrap_i64]; omega
  have wq1 : IntKind.i64.wrap (q - 1) = q - 1 := by rw [IntKind.wrap_i64]; omega
  have hrn : r ≠ 0 → (r != 0) = true ∧ ¬ r = 0 := fun h => ⟨bne_iff_ne.2 h, h⟩
  have hrz : r = 0 → (r == 0) = true := fun h => beq_iff_eq.2 h
  have o1 := Lib.hid (fun w hL => wholeOf_any (n := a.fdiv b) (w := w) (by omega) (by omega) hL)
  have o2 := Lib.hid (fun w hL => wholeOf_any (n := a.fmod b) (w := w) (by omega) (by omega) hL)
  have hE := Ext.refl w
  rcases hd with ⟨d1, d2, d3⟩ | ⟨d1, d2, d3, d4⟩ | ⟨d1, d2, d3, d4⟩ | ⟨d1, d2, d3, d4⟩ | ⟨d1, d2, d3, d4⟩
  all_goals
    first
      | have hrr := hrz (by omega)
      | obtain ⟨hrr, hrr0⟩ := hrn (by omega)
    clear hrz hrn
    try rw [d2] at o1
    try rw [d2]
    try rw [d3] at o1
    try rw [d3] at o2
    try rw [d3]
    try rw [d4] at o2
    try rw [d4]
    try (have dd3 : ¬ r < 0 := by omega)
    try (have dd4 : ¬ b < 0 := by omega)
    try (have dd3 : r < 0 := by omega)
    try (have dd4 : b < 0 := by omega)
    try (have dd1 : decide (r < 0) = false := decide_eq_false (by omega))
    try (have dd1 : decide (r < 0) = true := decide_eq_true (by omega))
    try (have dd2 : decide (b < 0) = false := decide_eq_false (by omega))
    try (have dd2 : decide (b < 0) = true := decide_eq_true (by omega))
    clear d2 d3
    first
      | subst d1
      | clear d1
    try clear d4
    try (have wrb : IntKind.i64.wrap (r + b) = r + b := by rw [IntKind.wrap_i64]; omega)
    clear b1 b2 h1 h2 ha hb hL hq hr hqe hre
    have hbe : (b = 0) = False := eq_false hb0
    go_enter Tryz.func93, Tryz.ntmps93
    go_wp2_with fail
    refine (l1.out _).mono ?_
    rintro e w1 ⟨rfl, hE1⟩
    go_wp2_with fail
    refine (l2.out _).mono ?_
    rintro e w2 ⟨rfl, hE2⟩
    go_wp2_with fail
    go_region
    go_wp2_with fail
    refine (o1.out _ (HL.out.ext (hE1.trans hE2).drew)).mono ?_
    rintro e w3 ⟨rfl, hE3⟩
    have hE13 := (hE1.trans hE2).drew.trans hE3
    go_wp2_with fail
    refine (o2.out _ (HL.out.ext hE13)).mono ?_
    rintro e w4 ⟨rfl, hE4⟩
    go_wp2_with fail
    go_ret3
    exact ⟨rfl, hE13.trans hE4⟩
end Go.Proofs.YtokjolmpdfmnbaaGreatDoor
namespace Go.Proofs.YtokjolmpdfmnbaaGreatDoor
open Go.RowKit Go.Sort
theorem fdm_nat {a b : Int} (hb : b ≠ 0) (q r : Nat) (hq : q = a.natAbs / b.natAbs) (hr : r = a.natAbs % b.natAbs) :
    ((a < 0 ↔ b < 0) ∧ a.fdiv b = q ∧ a.fmod b = (if b < 0 then -(r : Int) else r)) ∨
    (¬ (a < 0 ↔ b < 0) ∧ r = 0 ∧ a.fdiv b = -(q : Int) ∧ a.fmod b = 0) ∨
    (¬ (a < 0 ↔ b < 0) ∧ r ≠ 0 ∧ a.fdiv b = -((q + 1 : Nat) : Int) ∧ a.fmod b = (if b < 0 then -((b.natAbs - r : Nat) : Int) else ((b.natAbs - r : Nat) : Int))) := by
  have hbn : 0 < b.natAbs := by omega
  have h1 : r + b.natAbs * q = a.natAbs := by rw [hq, hr]; exact Nat.mod_add_div _ _
  have h2 : r < b.natAbs := by rw [hr]; exact Nat.mod_lt _ hbn
  clear hq hr
  have h1' : (r : Int) + (b.natAbs : Int) * q = a.natAbs := by rw [← h1]; simp
  generalize hB : b.natAbs = B at *
  generalize hA : a.natAbs = A at *
  by_cases ha : a < 0 <;> by_cases hb' : b < 0
  · have ea : a = -(A : Int) := by omega
    have eb : b = -(B : Int) := by omega
    refine .inl ⟨by simp [ha, hb'], ?_⟩
    rw [if_pos hb']
    refine fdm_neg hb' ?_ (by omega) (by omega)
    rw [ea, eb, ← h1']; grind
  · have ea : a = -(A : Int) := by omega
    have eb : b = (B : Int) := by omega
    by_cases hr : r = 0
    · refine .inr (.inl ⟨by simp [ha, hb'], hr, ?_⟩)
      refine fdm_pos (by omega) ?_ (by omega) (by omega)
      rw [ea, eb, ← h1', hr]; grind
    · refine .inr (.inr ⟨by simp [ha, hb'], hr, ?_⟩)
      rw [if_neg hb']
      refine fdm_pos (by omega) ?_ (by omega) (by omega)
      rw [ea, eb, ← h1', Int.natCast_sub (by omega)]; grind
  · have ea : a = (A : Int) := by omega
    have eb : b = -(B : Int) := by omega
    by_cases hr : r = 0
    · refine .inr (.inl ⟨by simp [ha, hb'], hr, ?_⟩)
      refine fdm_neg (by omega) ?_ (by omega) (by omega)
      rw [ea, eb, ← h1', hr]; grind
    · refine .inr (.inr ⟨by simp [ha, hb'], hr, ?_⟩)
      rw [if_pos hb']
      refine fdm_neg (by omega) ?_ (by omega) (by omega)
      rw [ea, eb, ← h1', Int.natCast_sub (by omega)]; grind
  · have ea : a = (A : Int) := by omega
    have eb : b = (B : Int) := by omega
    refine .inl ⟨by simp [ha, hb'], ?_⟩
    rw [if_neg hb']
    refine fdm_pos (by omega) ?_ (by omega) (by omega)
    rw [ea, eb, ← h1']
theorem D_one : D 1 = S [49] := by unfold D; rw [Lib.decDigits]; rfl
set_option maxRecDepth 100000 in
set_option maxHeartbeats 4000000 in
theorem DivMod_slow {a b : Int} (hs : fits 18 a = false ∨ fits 18 a = true ∧ fits 18 b = false) (ha : nd a < LIM) (hb : nd b < LIM) (hb0 : b ≠ 0) {w : World} (hL : Laid w) :
    Calls Tryz.prog 93 #[I a, I b] w fun e w' => e = .returned (.tuple #[I (a.fdiv b), I (a.fmod b), .int .i64 0]) ∧ Ext w w' := by
  have HL := Lib.hid hL
  have hz : (Lib.itoa b == [48]) = false := by rw [itoa_eq_zero]; exact decide_eq_false hb0
  have l1 := Lib.hid (little_any (z := a) (m := 18) (Nat.le_of_lt ha) (by omega))
  have l2 := Lib.hid (little_any (z := b) (m := 18) (Nat.le_of_lt hb) (by omega))
  have s1 := Lib.hid (split_any (z := a) (Nat.le_of_lt ha))
  have s2 := Lib.hid (split_any (z := b) (Nat.le_of_lt hb))
  have ha' : Lib.nDigits a.natAbs < LIM := ha
  have hb' : Lib.nDigits b.natAbs < LIM := hb
  have hdm := Lib.hid (fun w hL => dDivMod_any (w := w) ha' hb' (by omega) hL)
  have hfd := fdm_nat (a := a) hb0 _ _ rfl rfl
  have hrb : a.natAbs % b.natAbs < b.natAbs := Nat.mod_lt _ (by omega)
  have nq : Lib.nDigits (a.natAbs / b.natAbs) < LIM := Nat.lt_of_le_of_lt (nDigits_mono (Nat.div_le_self _ _)) ha'
  have nr : Lib.nDigits (a.natAbs % b.natAbs) < LIM := Nat.lt_of_le_of_lt (nDigits_mono (Nat.le_of_lt hrb)) hb'
  clear ha hb hb0 ha' hL
  generalize a.natAbs / b.natAbs = q at *
  generalize a.natAbs % b.natAbs = r at *
  have hadd := Lib.hid (fun w hL => dAdd_any (u := q) (v := 1) (w := w) nq (by unfold LIM; exact Nat.lt_of_le_of_lt (nDigits_le (u := 1) (k := 1) (by omega) (by omega)) (by omega)) hL)
  rw [D_one] at hadd
  have hsub := Lib.hid (fun w hL => dSub_any (u := b.natAbs) (v := r) (w := w) hb' (Nat.le_of_lt hrb) hL)
  have nq1 : Lib.nDigits (q + 1) ≤ LIM := by
    have := nd_add (q : Int) 1
    unfold nd at this
    rw [show ((q : Int) + 1).natAbs = q + 1 by omega] at this
    simp only [Int.natAbs_natCast] at this
    have h1 : Lib.nDigits (Int.natAbs 1) ≤ 1 := nDigits_le (u := 1) (k := 1) (by omega) (by omega)
    have := Lib.nDigits_pos q
    omega
  have nbr : Lib.nDigits (b.natAbs - r) ≤ LIM := Nat.le_trans (nDigits_mono (Nat.sub_le _ _)) (Nat.le_of_lt hb')
  have J1 := Lib.hid (fun c w => join_any c q (Nat.le_of_lt nq) w)
  have J2 := Lib.hid (fun c w => join_any c r (Nat.le_of_lt nr) w)
  have J3 := Lib.hid (fun c w => join_any c (q + 1) nq1 w)
  have J4 := Lib.hid (fun c w => join_any c (b.natAbs - r) nbr w)
  clear hb' hrb nq nr nq1 nbr
  generalize b.natAbs - r = d at *
  generalize hq1 : q + 1 = q1 at *
  clear hq1
  generalize b.natAbs = bn at *
  have hrz : (Lib.decDigits r == [48]) = decide (r = 0) := dec_eq_zero r
  have hE := Ext.refl w
  rcases hfd with ⟨e0, e1, e2⟩ | ⟨e0, e1, e2, e3⟩ | ⟨e0, e1, e2, e3⟩
  case inl =>
    clear hadd hsub J3 J4 hrz
    rcases neg_or a with ⟨ga, ea⟩ | ⟨ga, ea⟩ <;> rcases neg_or b with ⟨gb, eb⟩ | ⟨gb, eb⟩ <;> first | (exfalso; omega) | skip
    all_goals
      rw [ea] at s1; rw [eb] at s2
      first | rw [if_pos gb] at e2 | rw [if_neg (by omega)] at e2
      have E1 := Lib.hid e1
      have E2 := Lib.hid e2
      clear ga gb ea eb e0 e1 e2
      rcases hs with h1 | ⟨h1, h2⟩
      all_goals
        rw [h1] at l1
        try rw [h2] at l2
        go_enter Tryz.func93, Tryz.ntmps93
        go_wp2_with (first
          | (go_at_call 140; (first | (refine (l1.out _).mono ?_; clear l1) | refine (l2.out _).mono ?_); rintro e w1 ⟨rfl, hE1⟩; replace hE := hE.trans hE1; clear hE1)
          | (go_at_call 138; (first | (refine (s1.out _).mono ?_; clear s1) | refine (s2.out _).mono ?_); rintro e w1 ⟨rfl, hE1⟩; replace hE := hE.trans hE1; clear hE1)
          | (go_at_call 141; refine (hdm.out _ (HL.out.ext hE)).mono ?_; rintro e w1 ⟨rfl, hE1⟩; replace hE := hE.trans hE1; clear hE1)
          | (go_at_call 144; (first | (refine (J1.out _ _).mono ?_; clear J1) | refine (J2.out _ _).mono ?_); rintro e w1 ⟨rfl, hE1⟩; replace hE := hE.trans hE1; clear hE1))
        go_ret3
        exact ⟨ret_val (by rw [E1.out, E2.out]; rfl), hE⟩
  case inr.inl =>
    clear hadd hsub J3 J4
    rw [decide_eq_true e1] at hrz
    rcases neg_or a with ⟨ga, ea⟩ | ⟨ga, ea⟩ <;> rcases neg_or b with ⟨gb, eb⟩ | ⟨gb, eb⟩ <;> first | (exfalso; omega) | skip
    all_goals
      rw [ea] at s1; rw [eb] at s2
      have E1 := Lib.hid e2
      have E2 := Lib.hid e3
      have R := Lib.hid e1
      clear ga gb ea eb e0 e1 e2 e3
      rcases hs with h1 | ⟨h1, h2⟩
      all_goals
        rw [h1] at l1
        try rw [h2] at l2
        go_enter Tryz.func93, Tryz.ntmps93
        go_wp2_with (first
          | (go_at_call 140; (first | (refine (l1.out _).mono ?_; clear l1) | refine (l2.out _).mono ?_); rintro e w1 ⟨rfl, hE1⟩; replace hE := hE.trans hE1; clear hE1)
          | (go_at_call 138; (first | (refine (s1.out _).mono ?_; clear s1) | refine (s2.out _).mono ?_); rintro e w1 ⟨rfl, hE1⟩; replace hE := hE.trans hE1; clear hE1)
          | (go_at_call 141; refine (hdm.out _ (HL.out.ext hE)).mono ?_; rintro e w1 ⟨rfl, hE1⟩; replace hE := hE.trans hE1; clear hE1)
          | (go_at_call 144; (first | (refine (J1.out _ _).mono ?_; clear J1) | refine (J2.out _ _).mono ?_); rintro e w1 ⟨rfl, hE1⟩; replace hE := hE.trans hE1; clear hE1))
        go_ret3
        exact ⟨ret_val (by rw [E1.out, E2.out, R.out]; rfl), hE⟩
  case inr.inr =>
    clear J1 J2
    rw [decide_eq_false e1] at hrz
    rcases neg_or a with ⟨ga, ea⟩ | ⟨ga, ea⟩ <;> rcases neg_or b with ⟨gb, eb⟩ | ⟨gb, eb⟩ <;> first | (exfalso; omega) | skip
    all_goals
      rw [ea] at s1; rw [eb] at s2
      first | rw [if_pos gb] at e3 | rw [if_neg (by omega)] at e3
      have E1 := Lib.hid e2
      have E2 := Lib.hid e3
      clear ga gb ea eb e0 e1 e2 e3
      rcases hs with h1 | ⟨h1, h2⟩
      all_goals
        rw [h1] at l1
        try rw [h2] at l2
        go_enter Tryz.func93, Tryz.ntmps93
        go_wp2_with (first
          | (go_at_call 140; (first | (refine (l1.out _).mono ?_; clear l1) | refine (l2.out _).mono ?_); rintro e w1 ⟨rfl, hE1⟩; replace hE := hE.trans hE1; clear hE1)
          | (go_at_call 138; (first | (refine (s1.out _).mono ?_; clear s1) | refine (s2.out _).mono ?_); rintro e w1 ⟨rfl, hE1⟩; replace hE := hE.trans hE1; clear hE1)
          | (go_at_call 141; refine (hdm.out _ (HL.out.ext hE)).mono ?_; rintro e w1 ⟨rfl, hE1⟩; replace hE := hE.trans hE1; clear hE1)
          | (go_at_call 142; refine (hadd.out _ (HL.out.ext hE)).mono ?_; rintro e w1 ⟨rfl, hE1⟩; replace hE := hE.trans hE1; clear hE1)
          | (go_at_call 143; refine (hsub.out _ (HL.out.ext hE)).mono ?_; rintro e w1 ⟨rfl, hE1⟩; replace hE := hE.trans hE1; clear hE1)
          | (go_at_call 144; (first | (refine (J3.out _ _).mono ?_; clear J3) | refine (J4.out _ _).mono ?_); rintro e w1 ⟨rfl, hE1⟩; replace hE := hE.trans hE1; clear hE1))
        go_ret3
        exact ⟨ret_val (by rw [E1.out, E2.out]; rfl), hE⟩
theorem DivMod_any {a b : Int} (ha : nd a < LIM) (hb : nd b < LIM) (hb0 : b ≠ 0) {w : World} (hL : Laid w) :
    Calls Tryz.prog 93 #[I a, I b] w fun e w' => e = .returned (.tuple #[I (a.fdiv b), I (a.fmod b), .int .i64 0]) ∧ Ext w w' := by
  cases h1 : fits 18 a
  · exact DivMod_slow (.inl h1) ha hb hb0 hL
  · cases h2 : fits 18 b
    · exact DivMod_slow (.inr ⟨h1, h2⟩) ha hb hb0 hL
    · exact DivMod_fast h1 h2 (Nat.le_of_lt ha) (Nat.le_of_lt hb) hb0 hL
end Go.Proofs.YtokjolmpdfmnbaaGreatDoor
namespace Go.Proofs.YtokjolmpdfmnbaaGreatDoor
open Go.RowKit Go.Sort
theorem I_nat (u : Nat) : I (u : Int) = D u := by unfold I D; rw [itoa_nat]
set_option maxHeartbeats 1000000 in
theorem dGcd_any {u v : Nat} (hu : Lib.nDigits u < LIM) (hv : Lib.nDigits v < LIM) {w : World} (hL : Laid w) :
    Calls Tryz.prog 149 #[D u, D v] w fun e w' => e = .returned (D (Nat.gcd u v)) ∧ Ext w w' := by
  have HL := Lib.hid hL
  obtain ⟨g, hg⟩ : ∃ g, g = Nat.gcd u v := ⟨_, rfl⟩
  have H0 := Lib.hid (⟨hu, hv, hg.symm⟩ : Lib.nDigits u < LIM ∧ Lib.nDigits v < LIM ∧ Nat.gcd u v = g)
  rw [← hg]
  clear hL hu hv hg
  go_enter Tryz.func149, Tryz.ntmps149
  go_wp2_with fail
  go_loopg [0, 1, 5, 6, 7] v (fun k av bv _ _ _ wr => ∃ (x y : Nat), av = D x ∧ bv = D y ∧ k = y ∧ Hid (Lib.nDigits x < LIM ∧ Lib.nDigits y < LIM ∧ Nat.gcd x y = g) ∧ Ext w wr)
  case atStart => exact ⟨u, v, rfl, rfl, rfl, Lib.hid ⟨H0.out.1, H0.out.2.1, H0.out.2.2⟩, Ext.refl _⟩
  case round =>
    obtain ⟨x, y, rfl, rfl, rfl, HK, hE⟩ := hrel
    generalize wr = V at *
    by_cases hy : gk = 0
    · have hvz : (Lib.decDigits gk == [48]) = true := by rw [dec_eq_zero, decide_eq_true hy]
      have Hg := Lib.hid (show g = x by have := HK.out.2.2; rw [hy, Nat.gcd_zero_right] at this; exact this.symm)
      clear hy
      go_wp2_with fail
      go_ret
      exact ⟨ret_val (by rw [Hg.out]; rfl), hE⟩
    · have hvz : (Lib.decDigits gk == [48]) = false := by rw [dec_eq_zero, decide_eq_false hy]
      have hdm := Lib.hid (dDivMod_any HK.out.1 HK.out.2.1 hy (HL.out.ext hE))
      have Hm := Lib.hid (Nat.mod_lt x (Nat.pos_of_ne_zero hy))
      have HK2 := Lib.hid (show Lib.nDigits gk < LIM ∧ Lib.nDigits (x % gk) < LIM ∧ Nat.gcd gk (x % gk) = g from ⟨HK.out.2.1, Nat.lt_of_le_of_lt (nDigits_mono (Nat.le_of_lt Hm.out)) HK.out.2.1, by rw [← HK.out.2.2, Nat.gcd_comm gk, ← Nat.gcd_rec, Nat.gcd_comm]⟩)
      generalize x % gk = r at *
      clear hy HK
      go_wp2_with fail
      refine hdm.out.mono ?_
      rintro e w1 ⟨rfl, hE1⟩
      go_wp2_with fail
      go_roundg r
      case measure => exact Hm.out
      case rel => exact ⟨gk, r, rfl, rfl, rfl, HK2, hE.trans hE1⟩
theorem dLcm_any {u v : Nat} (hu0 : u ≠ 0) (hv0 : v ≠ 0) (huv : Lib.nDigits u + Lib.nDigits v < LIM) {w : World} (hL : Laid w) :
    Calls Tryz.prog 101 #[D u, D v] w fun e w' => e = .returned (D (Nat.lcm u v)) ∧ Ext w w' := by
  have HL := Lib.hid hL
  have hvz : (Lib.decDigits v == [48]) = false := by rw [dec_eq_zero, decide_eq_false hv0]
  have huz : (Lib.decDigits u == [48]) = false := by rw [dec_eq_zero, decide_eq_false hu0]
  have hgp : Nat.gcd u v ≠ 0 := Nat.gcd_ne_zero_left hu0
  have hgl : Nat.gcd u v ≤ u := Nat.gcd_le_left _ (by omega)
  have pu := Lib.nDigits_pos u
  have pv := Lib.nDigits_pos v
  have hg := Lib.hid (dGcd_any (u := u) (v := v) (by omega) (by omega) hL)
  have hd := Lib.hid (fun w hL => dDivMod_any (u := u) (v := Nat.gcd u v) (w := w) (by omega) (by have := nDigits_mono hgl; omega) hgp hL)
  have hm := Lib.hid (fun w hL => dMul_any (u := u / Nat.gcd u v) (v := v) (w := w) (by have := nDigits_mono (Nat.div_le_self u (Nat.gcd u v)); omega) hL)
  have He := Lib.hid (show u / Nat.gcd u v * v = Nat.lcm u v by
    rw [Nat.lcm, Nat.div_mul_right_comm (Nat.gcd_dvd_left u v)])
  rw [He.out] at hm
  clear hu0 hv0 huv hgp hgl pu pv hL He
  generalize Nat.gcd u v = g at *
  generalize Nat.lcm u v = L at *
  generalize u / g = q at *
  generalize u % g = r at *
  go_enter Tryz.func101, Tryz.ntmps101
  go_wp2_with fail
  refine hg.out.mono ?_
  rintro e w1 ⟨rfl, hE1⟩
  go_wp2_with fail
  refine (hd.out _ (HL.out.ext hE1)).mono ?_
  rintro e w2 ⟨rfl, hE2⟩
  go_wp2_with fail
  refine (hm.out _ (HL.out.ext (hE1.trans hE2))).mono ?_
  rintro e w3 ⟨rfl, hE3⟩
  go_wp2_with fail
  go_ret
  exact ⟨rfl, (hE1.trans hE2).trans hE3⟩
theorem wgcd_any {u v : Nat} (hu : u < 1000000000000000000) (hv : v < 1000000000000000000) (w : World) :
    Calls Tryz.prog 176 #[.int .i64 u, .int .i64 v] w fun e w' => e = .returned (.int .i64 (Nat.gcd u v : Nat)) ∧ Ext w w' := by
  obtain ⟨g, hg⟩ : ∃ g, g = Nat.gcd u v := ⟨_, rfl⟩
  have H0 := Lib.hid hg.symm
  rw [← hg]
  clear hg
  go_enter Tryz.func176, Tryz.ntmps176
  go_wp2_with fail
  go_loopg [0, 1] v (fun k av bv wr => ∃ (x y : Nat), av = .int .i64 x ∧ bv = .int .i64 y ∧ k = y ∧ x < 1000000000000000000 ∧ y < 1000000000000000000 ∧ Hid (Nat.gcd x y = g) ∧ Ext w wr)
  case atStart => exact ⟨u, v, rfl, rfl, rfl, hu, hv, H0, Ext.refl _⟩
  case round =>
    obtain ⟨x, y, rfl, rfl, rfl, hx, hy, HK, hE⟩ := hrel
    generalize wr = V at *
    by_cases hz : gk = 0
    · subst hz
      have Hg := Lib.hid (show g = x by have := HK.out; rw [Nat.gcd_zero_right] at this; exact this.symm)
      go_wp2_with fail
      go_ret
      exact ⟨ret_val (by rw [Hg.out]; rfl), hE⟩
    · have hzi : ((gk : Int) == 0) = false := beq_eq_false_iff_ne.2 (by omega)
      have hr : Int.tmod (x : Int) (gk : Int) = ((x % gk : Nat) : Int) := by rw [Int.tmod_eq_emod_of_nonneg (by omega)]; omega
      have Hm := Nat.mod_lt x (Nat.pos_of_ne_zero hz)
      have HK2 := Lib.hid (show Nat.gcd gk (x % gk) = g by rw [← HK.out, Nat.gcd_comm gk, ← Nat.gcd_rec, Nat.gcd_comm])
      generalize x % gk = r at *
      clear hz HK
      go_wp2_with fail
      go_quiet (fail)
      go_wp2_with fail
      go_roundg r
      case measure => exact Hm
      case rel => exact ⟨gk, r, rfl, rfl, rfl, hy, by omega, HK2, hE.drewN _⟩
theorem fits_abs {z : Int} : fits 18 (z.natAbs : Int) = decide (Lib.nDigits z.natAbs ≤ 18) := by
  unfold fits; rw [itoa_nat, Lib.decDigits_length]
theorem wGcd_any {a b : Int} (ha : nd a < LIM) (hb : nd b < LIM) {w : World} (hL : Laid w) :
    Calls Tryz.prog 147 #[I a, I b] w fun e w' => e = .returned (I (Nat.gcd a.natAbs b.natAbs : Nat)) ∧ Ext w w' := by
  have HL := Lib.hid hL
  have h1 := Lib.hid (Abs_any (z := a) (Nat.le_of_lt ha))
  have h2 := Lib.hid (Abs_any (z := b) (Nat.le_of_lt hb))
  have l1 := Lib.hid (little_any (z := (a.natAbs : Int)) (m := 18) (by show Lib.nDigits _ ≤ _; rw [Int.natAbs_natCast]; exact Nat.le_of_lt ha) (by omega))
  have l2 := Lib.hid (little_any (z := (b.natAbs : Int)) (m := 18) (by show Lib.nDigits _ ≤ _; rw [Int.natAbs_natCast]; exact Nat.le_of_lt hb) (by omega))
  have hdg := Lib.hid (fun w hL => dGcd_any (u := a.natAbs) (v := b.natAbs) (w := w) ha hb hL)
  rw [fits_abs] at l1 l2
  rw [I_nat]
  rw [I_nat] at h1 h2 l1 l2
  clear hL ha hb
  generalize a.natAbs = u at *
  generalize b.natAbs = v at *
  by_cases hs1 : Lib.nDigits u ≤ 18
  · rw [decide_eq_true hs1] at l1
    by_cases hs2 : Lib.nDigits v ≤ 18
    · rw [decide_eq_true hs2] at l2
      rw [if_pos rfl] at l1 l2
      have b1 := lt_pow_of_nd hs1
      have b2 := lt_pow_of_nd hs2
      have hgl : Nat.gcd u v < 1000000000000000000 := by
        by_cases h0 : u = 0
        · subst h0; rw [Nat.gcd_zero_left]; omega
        · have := Nat.gcd_le_left v (Nat.pos_of_ne_zero h0); omega
      have hg := Lib.hid (wgcd_any (u := u) (v := v) (by omega) (by omega))
      have hof := Lib.hid (fun w hL => wholeOf_any (n := (Nat.gcd u v : Nat)) (w := w) (by omega) (by omega) hL)
      rw [I_nat] at hof
      clear hs1 hs2 hdg b1 b2
      generalize Nat.gcd u v = g at *
      go_enter Tryz.func147, Tryz.ntmps147
      go_wp2_with fail
      refine (h1.out _).mono ?_
      rintro e w1 ⟨rfl, hE1⟩
      go_wp2_with fail
      refine (h2.out _).mono ?_
      rintro e w2 ⟨rfl, hE2⟩
      go_wp2_with fail
      refine (l1.out _).mono ?_
      rintro e w3 ⟨rfl, hE3⟩
      go_wp2_with fail
      refine (l2.out _).mono ?_
      rintro e w4 ⟨rfl, hE4⟩
      go_wp2_with fail
      refine (hg.out _).mono ?_
      rintro e w5 ⟨rfl, hE5⟩
      go_wp2_with fail
      have hE := (((hE1.trans hE2).trans hE3).trans hE4).trans hE5
      refine (hof.out _ (HL.out.ext hE)).mono ?_
      rintro e w6 ⟨rfl, hE6⟩
      go_wp2_with fail
      go_ret
      exact ⟨rfl, hE.trans hE6⟩
    · rw [decide_eq_false hs2] at l2
      rw [if_pos rfl] at l1
      clear hs1 hs2
      go_enter Tryz.func147, Tryz.ntmps147
      go_wp2_with fail
      refine (h1.out _).mono ?_
      rintro e w1 ⟨rfl, hE1⟩
      go_wp2_with fail
      refine (h2.out _).mono ?_
      rintro e w2 ⟨rfl, hE2⟩
      go_wp2_with fail
      refine (l1.out _).mono ?_
      rintro e w3 ⟨rfl, hE3⟩
      go_wp2_with fail
      refine (l2.out _).mono ?_
      rintro e w4 ⟨rfl, hE4⟩
      go_wp2_with fail
      have hE := ((hE1.trans hE2).trans hE3).trans hE4
      refine (hdg.out _ (HL.out.ext hE)).mono ?_
      rintro e w5 ⟨rfl, hE5⟩
      go_wp2_with fail
      go_ret
      exact ⟨rfl, hE.trans hE5⟩
  · rw [decide_eq_false hs1] at l1
    clear hs1
    go_enter Tryz.func147, Tryz.ntmps147
    go_wp2_with fail
    refine (h1.out _).mono ?_
    rintro e w1 ⟨rfl, hE1⟩
    go_wp2_with fail
    refine (h2.out _).mono ?_
    rintro e w2 ⟨rfl, hE2⟩
    go_wp2_with fail
    refine (l1.out _).mono ?_
    rintro e w3 ⟨rfl, hE3⟩
    go_wp2_with fail
    have hE := (hE1.trans hE2).trans hE3
    refine (hdg.out _ (HL.out.ext hE)).mono ?_
    rintro e w5 ⟨rfl, hE5⟩
    go_wp2_with fail
    go_ret
    exact ⟨rfl, hE.trans hE5⟩
theorem wLcm_any {a b : Int} (ha : a ≠ 0) (hb : b ≠ 0) (hab : nd a + nd b < LIM) {w : World} (hL : Laid w) :
    Calls Tryz.prog 49 #[I a, I b] w fun e w' => e = .returned (I (Nat.lcm a.natAbs b.natAbs : Nat)) ∧ Ext w w' := by
  have HL := Lib.hid hL
  have h1 := Lib.hid (Abs_any (z := a) (by omega))
  have h2 := Lib.hid (Abs_any (z := b) (by omega))
  have hl := Lib.hid (fun w hL => dLcm_any (u := a.natAbs) (v := b.natAbs) (w := w) (by omega) (by omega) hab hL)
  rw [I_nat]
  rw [I_nat] at h1 h2
  clear hL ha hb hab
  generalize a.natAbs = u at *
  generalize b.natAbs = v at *
  go_enter Tryz.func49, Tryz.ntmps49
  go_wp2_with fail
  refine (h1.out _).mono ?_
  rintro e w1 ⟨rfl, hE1⟩
  go_wp2_with fail
  refine (h2.out _).mono ?_
  rintro e w2 ⟨rfl, hE2⟩
  go_wp2_with fail
  refine (hl.out _ (HL.out.ext (hE1.trans hE2))).mono ?_
  rintro e w3 ⟨rfl, hE3⟩
  go_wp2_with fail
  go_ret
  exact ⟨rfl, (hE1.trans hE2).trans hE3⟩
end Go.Proofs.YtokjolmpdfmnbaaGreatDoor
