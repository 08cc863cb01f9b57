/- Part 9 of the proof of the claim: contracts of the functions that it reaches, and plain laws; no condition. -/
import Derived.Test.YtedlgnoiojcjaaaGreatDoorV08
import Derived.Test.YtedlgnoiojcjaaaGreatDoorV01
import Derived.Laws.CopyOwn
import Derived.Deep.RegionLaw
set_option maxRecDepth 100000
namespace Go.Proofs.YtedlgnoiojcjaaaGreatDoor
open Go.RowKit Go.Sort
def fits (m : Nat) (z : Int) : Bool := decide ((Lib.itoa z).length ≤ m)
theorem little_any {z : Int} {m : Nat} (hn : nd z ≤ LIM) (hm : m ≤ 18) (w : World) :
  Calls Tryz.prog 137 #[I z, .int .i64 m] w fun e w' => e = .returned (.tuple #[.int .i64 (if fits m z then z else 0), .bool (fits m z)]) ∧ Ext w w' := by
 by_cases h : (Lib.itoa z).length ≤ m
 ·have e : fits m z = true := decide_eq_true h
  rw [e]; exact little_yes h hm w
 ·have e : fits m z = false := decide_eq_false h
  rw [e]; exact little_no hn (by omega) hm w
theorem fits_lt {m : Nat} {z : Int} (h : fits m z = true) : z.natAbs < 10 ^ m := by
 refine lt_pow_of_nd (k := m) ?_
 have := of_decide_eq_true h
 rw [itoa_length] at this; unfold nd at this; omega
theorem split_any {z : Int} (hl : nd z ≤ LIM) (w : World) : Calls Tryz.prog 134 #[I z] w fun e w' => e = .returned (.tuple #[.bool (decide (z < 0)), D z.natAbs]) ∧ Ext w w' := by
 by_cases hz : z < 0
 ·rw [decide_eq_true hz]; exact split_neg hz hl w
 ·rw [decide_eq_false hz]; exact split_pos (by omega) w
theorem neg_or (z : Int) : (z < 0 ∧ decide (z < 0) = true) ∨ (0 ≤ z ∧ decide (z < 0) = false) := by
 by_cases h : z < 0
 ·exact .inl ⟨h, decide_eq_true h⟩
 ·exact .inr ⟨by omega, decide_eq_false h⟩
theorem Add_fast {a b : Int} (h1 : fits 18 a = true) (h2 : fits 18 b = true) (ha : nd a ≤ LIM) (hb : nd b ≤ LIM) {w : World} (hL : Laid w) :
  Calls Tryz.prog 127 #[I a, I b] w fun e w' => e = .returned (I (a + b)) ∧ Ext w w' := by
 have HL := Lib.hid hL
 have b1 := fits_lt h1
 have b2 := fits_lt h2
 have l1 := Lib.hid (little_any (z := a) (m := 18) ha (by omega))
 have l2 := Lib.hid (little_any (z := b) (m := 18) hb (by omega))
 rw [h1] at l1; rw [h2] at l2
 have hof := Lib.hid (fun w hL => wholeOf_any (n := a + b) (w := w) (by omega) (by omega) hL)
 have hwr : IntKind.i64.wrap (a + b) = a + b := by rw [IntKind.wrap_i64]; omega
 clear b1 b2 h1 h2 ha hb hL
 go_enter Tryz.func127, Tryz.ntmps127
 go_wp2_with fail
 refine (l1.out _).mono ?_
 rintro e w1 ⟨rfl, hE1⟩
 go_wp2_with fail
 refine (l2.out _).mono ?_
 rintro e w2 ⟨rfl, hE2⟩
 go_wp2_with fail
 refine (hof.out _ (HL.out.ext (hE1.trans hE2))).mono ?_
 rintro e w3 ⟨rfl, hE3⟩
 go_wp2_with fail
 go_ret
 exact ⟨rfl, (hE1.trans hE2).trans hE3⟩
set_option maxHeartbeats 2000000 in
theorem Add_slow {a b : Int} (hs : fits 18 a = false ∨ fits 18 a = true ∧ fits 18 b = false) (ha : nd a < LIM) (hb : nd b < LIM) {w : World} (hL : Laid w) :
    Calls Tryz.prog 127 #[I a, I b] w fun e w' => e = .returned (I (a + b)) ∧ Ext w w' := by
  have HL := Lib.hid hL
  have l1 := Lib.hid (little_any (z := a) (m := 18) (Nat.le_of_lt ha) (by omega))
  have l2 := Lib.hid (little_any (z := b) (m := 18) (Nat.le_of_lt hb) (by omega))
  have s1 := Lib.hid (split_any (z := a) (Nat.le_of_lt ha))
  have s2 := Lib.hid (split_any (z := b) (Nat.le_of_lt hb))
  have ha' : Lib.nDigits a.natAbs < LIM := ha
  have hb' : Lib.nDigits b.natAbs < LIM := hb
  have hadd := Lib.hid (fun w hL => dAdd_any (w := w) ha' hb' hL)
  have hcm := Lib.hid (dCompare_any (u := a.natAbs) (v := b.natAbs) (Nat.le_of_lt ha) (Nat.le_of_lt hb))
  have hj : Lib.nDigits (a.natAbs + b.natAbs) ≤ LIM := by
    have := nd_add (a.natAbs : Int) (b.natAbs : Int)
    unfold nd at this
    rw [show ((a.natAbs : Int) + (b.natAbs : Int)).natAbs = a.natAbs + b.natAbs by omega] at this
    simp only [Int.natAbs_natCast] at this
    omega
  have hj1 : Lib.nDigits (a.natAbs - b.natAbs) ≤ LIM := Nat.le_trans (nDigits_mono (Nat.sub_le _ _)) (Nat.le_of_lt ha')
  have hj2 : Lib.nDigits (b.natAbs - a.natAbs) ≤ LIM := Nat.le_trans (nDigits_mono (Nat.sub_le _ _)) (Nat.le_of_lt hb')
  have J := Lib.hid (fun c w => join_any c _ hj w)
  have J1 := Lib.hid (fun c w => join_any c _ hj1 w)
  have J2 := Lib.hid (fun c w => join_any c _ hj2 w)
  have sub1 : Hid (b.natAbs ≤ a.natAbs → ∀ w (_ : Laid w), Calls Tryz.prog 174 #[D a.natAbs, D b.natAbs] w fun e w' => e = .returned (.tuple #[D (a.natAbs - b.natAbs), .int .i64 0]) ∧ Ext w w') := Lib.hid (fun h w hL => dSub_any (w := w) ha' h hL)
  have sub2 : Hid (a.natAbs ≤ b.natAbs → ∀ w (_ : Laid w), Calls Tryz.prog 174 #[D b.natAbs, D a.natAbs] w fun e w' => e = .returned (.tuple #[D (b.natAbs - a.natAbs), .int .i64 0]) ∧ Ext w w') := Lib.hid (fun h w hL => dSub_any (w := w) hb' h hL)
  clear ha hb hL ha' hb' hj hj1 hj2
  have dv : (a.natAbs < b.natAbs ∧ cmpN a.natAbs b.natAbs = -1 ∧ Hid (∀ w (_ : Laid w), Calls Tryz.prog 174 #[D b.natAbs, D a.natAbs] w fun e w' => e = .returned (.tuple #[D (b.natAbs - a.natAbs), .int .i64 0]) ∧ Ext w w') ∧ Hid (∀ c w, Calls Tryz.prog 175 #[.bool c, D (b.natAbs - a.natAbs)] w fun e w' => e = .returned (I (if c then -((b.natAbs - a.natAbs : Nat) : Int) else (b.natAbs - a.natAbs : Nat))) ∧ Ext w w'))
      ∨ (b.natAbs ≤ a.natAbs ∧ 0 ≤ cmpN a.natAbs b.natAbs ∧ Hid (∀ w (_ : Laid w), Calls Tryz.prog 174 #[D a.natAbs, D b.natAbs] w fun e w' => e = .returned (.tuple #[D (a.natAbs - b.natAbs), .int .i64 0]) ∧ Ext w w') ∧ Hid (∀ c w, Calls Tryz.prog 175 #[.bool c, D (a.natAbs - b.natAbs)] w fun e w' => e = .returned (I (if c then -((a.natAbs - b.natAbs : Nat) : Int) else (a.natAbs - b.natAbs : Nat))) ∧ Ext w w')) := by
    unfold cmpN
    by_cases h : a.natAbs < b.natAbs
    · exact .inl ⟨h, by rw [if_pos h], Lib.hid (sub2.out (Nat.le_of_lt h)), J2⟩
    · exact .inr ⟨by omega, by rw [if_neg h]; split <;> omega, Lib.hid (sub1.out (by omega)), J1⟩
  clear sub1 sub2 J1 J2
  generalize cmpN a.natAbs b.natAbs = cc at *
  have hE := Ext.refl w
  rcases neg_or a with ⟨ga, ea⟩ | ⟨ga, ea⟩ <;> rcases neg_or b with ⟨gb, eb⟩ | ⟨gb, eb⟩ <;> rw [ea] at s1 <;> rw [eb] at s2
  case inl.inl =>
    have R := Lib.hid (show -((a.natAbs : Int) + (b.natAbs : Int)) = a + b by omega)
    clear dv ga gb ea eb hcm
    rcases hs with h1 | ⟨h1, h2⟩
    all_goals
      rw [h1] at l1
      try rw [h2] at l2
      go_enter Tryz.func127, Tryz.ntmps127
      go_wp2_with (first
        | (go_at_call 137; (first | (refine (l1.out _).mono ?_; clear l1) | refine (l2.out _).mono ?_); rintro e w1 ⟨rfl, hE1⟩; replace hE := hE.trans hE1; clear hE1)
        | (go_at_call 134; (first | (refine (s1.out _).mono ?_; clear s1) | refine (s2.out _).mono ?_); rintro e w1 ⟨rfl, hE1⟩; replace hE := hE.trans hE1; clear hE1)
        | (go_at_call 173; refine (hadd.out _ (HL.out.ext hE)).mono ?_; rintro e w1 ⟨rfl, hE1⟩; replace hE := hE.trans hE1; clear hE1)
        | (go_at_call 175; refine (J.out _ _).mono ?_; rintro e w1 ⟨rfl, hE1⟩; replace hE := hE.trans hE1; clear hE1))
      go_ret
      exact ⟨ret_val (congrArg I R.out), hE⟩
  case inr.inr =>
    have R := Lib.hid (show (a.natAbs : Int) + (b.natAbs : Int) = a + b by omega)
    clear dv ga gb ea eb hcm
    rcases hs with h1 | ⟨h1, h2⟩
    all_goals
      rw [h1] at l1
      try rw [h2] at l2
      go_enter Tryz.func127, Tryz.ntmps127
      go_wp2_with (first
        | (go_at_call 137; (first | (refine (l1.out _).mono ?_; clear l1) | refine (l2.out _).mono ?_); rintro e w1 ⟨rfl, hE1⟩; replace hE := hE.trans hE1; clear hE1)
        | (go_at_call 134; (first | (refine (s1.out _).mono ?_; clear s1) | refine (s2.out _).mono ?_); rintro e w1 ⟨rfl, hE1⟩; replace hE := hE.trans hE1; clear hE1)
        | (go_at_call 173; refine (hadd.out _ (HL.out.ext hE)).mono ?_; rintro e w1 ⟨rfl, hE1⟩; replace hE := hE.trans hE1; clear hE1)
        | (go_at_call 175; refine (J.out _ _).mono ?_; rintro e w1 ⟨rfl, hE1⟩; replace hE := hE.trans hE1; clear hE1))
      go_ret
      exact ⟨ret_val (congrArg I R.out), hE⟩
  all_goals
    clear J hadd
    rcases dv with ⟨dl, dc, Sb, Jb⟩ | ⟨dl, dc, Sb, Jb⟩
    all_goals
      first
        | have R := Lib.hid (show -((a.natAbs - b.natAbs : Nat) : Int) = a + b by omega)
        | have R := Lib.hid (show ((a.natAbs - b.natAbs : Nat) : Int) = a + b by omega)
        | have R := Lib.hid (show -((b.natAbs - a.natAbs : Nat) : Int) = a + b by omega)
        | have R := Lib.hid (show ((b.natAbs - a.natAbs : Nat) : Int) = a + b by omega)
      try rw [dc] at hcm
      clear ga gb ea eb dl
      rcases hs with h1 | ⟨h1, h2⟩
      all_goals
        rw [h1] at l1
        try rw [h2] at l2
        go_enter Tryz.func127, Tryz.ntmps127
        go_wp2_with (first
          | (go_at_call 137; (first | (refine (l1.out _).mono ?_; clear l1) | refine (l2.out _).mono ?_); rintro e w1 ⟨rfl, hE1⟩; replace hE := hE.trans hE1; clear hE1)
          | (go_at_call 134; (first | (refine (s1.out _).mono ?_; clear s1) | refine (s2.out _).mono ?_); rintro e w1 ⟨rfl, hE1⟩; replace hE := hE.trans hE1; clear hE1)
          | (go_at_call 164; refine (hcm.out _).mono ?_; rintro e w1 ⟨rfl, hE1⟩; replace hE := hE.trans hE1; clear hE1)
          | (go_at_call 174; refine (Sb.out _ (HL.out.ext hE)).mono ?_; rintro e w1 ⟨rfl, hE1⟩; replace hE := hE.trans hE1; clear hE1)
          | (go_at_call 175; refine (Jb.out _ _).mono ?_; rintro e w1 ⟨rfl, hE1⟩; replace hE := hE.trans hE1; clear hE1))
        go_ret
        exact ⟨ret_val (congrArg I R.out), hE⟩
theorem Add_any {a b : Int} (ha : nd a < LIM) (hb : nd b < LIM) {w : World} (hL : Laid w) :
  Calls Tryz.prog 127 #[I a, I b] w fun e w' => e = .returned (I (a + b)) ∧ Ext w w' := by
 cases h1 : fits 18 a
 ·exact Add_slow (.inl h1) ha hb hL
 ·cases h2 : fits 18 b
  ·exact Add_slow (.inr ⟨h1, h2⟩) ha hb hL
  ·exact Add_fast h1 h2 (Nat.le_of_lt ha) (Nat.le_of_lt hb) hL
theorem Sub_any {a b : Int} (ha : nd a < LIM) (hb : nd b < LIM) {w : World} (hL : Laid w) :
  Calls Tryz.prog 275 #[I a, I b] w fun e w' => e = .returned (I (a - b)) ∧ Ext w w' := by
 have HL := Lib.hid hL
 have H1 := Lib.hid (Neg_any (z := b) (Nat.le_of_lt hb))
 have H2 := Lib.hid (fun w hL => Add_any (a := a) (b := -b) (w := w) ha (by rw [nd_neg]; exact hb) hL)
 have R := Lib.hid (show a + -b = a - b by omega)
 clear ha hb hL
 go_enter Tryz.func275, Tryz.ntmps275
 go_wp2_with fail
 refine (H1.out _).mono ?_
 rintro e w1 ⟨rfl, hE1⟩
 go_wp2_with fail
 refine (H2.out _ (HL.out.ext hE1)).mono ?_
 rintro e w2 ⟨rfl, hE2⟩
 go_wp2_with fail
 go_ret
 exact ⟨ret_val (congrArg I R.out), hE1.trans hE2⟩
theorem Mul_fast {a b : Int} (h1 : fits 9 a = true) (h2 : fits 9 b = true) (ha : nd a ≤ LIM) (hb : nd b ≤ LIM) {w : World} (hL : Laid w) :
    Calls Tryz.prog 119 #[I a, I b] w fun e w' => e = .returned (I (a * b)) ∧ Ext w w' := by
  have HL := Lib.hid hL
  have b1 := fits_lt h1
  have b2 := fits_lt h2
  have hab : (a * b).natAbs < 10 ^ 18 := by
    rw [Int.natAbs_mul]
    have h := Nat.mul_lt_mul'' b1 b2
    have e : (10 : Nat) ^ 9 * 10 ^ 9 = 10 ^ 18 := by rw [← Nat.pow_add]
    rw [e] at h
    exact h
  have l1 := Lib.hid (little_any (z := a) (m := 9) ha (by omega))
  have l2 := Lib.hid (little_any (z := b) (m := 9) hb (by omega))
  rw [h1] at l1; rw [h2] at l2
  obtain ⟨z, hz⟩ : ∃ z, z = a * b := ⟨_, rfl⟩
  have habz : a * b = z := hz.symm
  rw [habz] at hab ⊢
  have hof := Lib.hid (fun w hL => wholeOf_any (n := z) (w := w) (by omega) (by omega) hL)
  have hwr : IntKind.i64.wrap z = z := by rw [IntKind.wrap_i64]; omega
  clear b1 b2 h1 h2 ha hb hL hab hz
  have hE := Ext.refl w
  go_enter Tryz.func119, Tryz.ntmps119
  go_wp2_with (first
    | (go_at_call 137; (first | (refine (l1.out _).mono ?_; clear l1) | refine (l2.out _).mono ?_); rintro e w1 ⟨rfl, hE1⟩; replace hE := hE.trans hE1; clear hE1)
    | (go_at_call 116; refine (hof.out _ (HL.out.ext hE)).mono ?_; rintro e w1 ⟨rfl, hE1⟩; replace hE := hE.trans hE1; clear hE1))
  go_ret
  exact ⟨rfl, hE⟩
set_option maxHeartbeats 2000000 in
theorem Mul_slow {a b : Int} (hs : fits 9 a = false ∨ fits 9 a = true ∧ fits 9 b = false) (hab : nd a + nd b ≤ LIM) {w : World} (hL : Laid w) :
    Calls Tryz.prog 119 #[I a, I b] w fun e w' => e = .returned (I (a * b)) ∧ Ext w w' := by
  have HL := Lib.hid hL
  have l1 := Lib.hid (little_any (z := a) (m := 9) (by omega) (by omega))
  have l2 := Lib.hid (little_any (z := b) (m := 9) (by omega) (by omega))
  have s1 := Lib.hid (split_any (z := a) (by omega))
  have s2 := Lib.hid (split_any (z := b) (by omega))
  have hmul := Lib.hid (fun w hL => dMul_any (u := a.natAbs) (v := b.natAbs) (w := w) hab hL)
  have hj : Lib.nDigits (a.natAbs * b.natAbs) ≤ LIM := by
    have := nd_mul (a.natAbs : Int) (b.natAbs : Int)
    unfold nd at this hab
    rw [show ((a.natAbs : Int) * (b.natAbs : Int)).natAbs = a.natAbs * b.natAbs by rw [Int.natAbs_mul]; rfl] at this
    simp only [Int.natAbs_natCast] at this
    omega
  have J := Lib.hid (fun c w => join_any c _ hj w)
  have hval : ((a.natAbs * b.natAbs : Nat) : Int) = a.natAbs * b.natAbs := Int.natCast_mul _ _
  have R : Hid (∀ c : Bool, c = (decide (a < 0) != decide (b < 0)) → (if c then -((a.natAbs * b.natAbs : Nat) : Int) else ((a.natAbs * b.natAbs : Nat) : Int)) = a * b) := by
    refine Lib.hid fun c hc => ?_
    subst hc
    rw [hval]
    rcases neg_or a with ⟨ga, ea⟩ | ⟨ga, ea⟩ <;> rcases neg_or b with ⟨gb, eb⟩ | ⟨gb, eb⟩ <;> rw [ea, eb]
    · rw [Int.ofNat_natAbs_of_nonpos (by omega), Int.ofNat_natAbs_of_nonpos (by omega)]; simp [Int.neg_mul_neg]
    · rw [Int.ofNat_natAbs_of_nonpos (by omega), Int.natAbs_of_nonneg gb]; simp [Int.neg_mul]
    · rw [Int.ofNat_natAbs_of_nonpos (a := b) (by omega), Int.natAbs_of_nonneg ga]; simp [Int.mul_neg]
    · rw [Int.natAbs_of_nonneg gb, Int.natAbs_of_nonneg ga]; simp
  clear hab hL hj hval
  generalize a.natAbs * b.natAbs = m at *
  generalize a * b = z at *
  have hE := Ext.refl w
  rcases neg_or a with ⟨ga, ea⟩ | ⟨ga, ea⟩ <;> rcases neg_or b with ⟨gb, eb⟩ | ⟨gb, eb⟩ <;> rw [ea] at s1 R <;> rw [eb] at s2 R
  all_goals
    first
      | have R := Lib.hid (R.out true rfl)
      | have R := Lib.hid (R.out false rfl)
    clear ga gb ea eb
    rcases hs with h1 | ⟨h1, h2⟩
    all_goals
      rw [h1] at l1
      try rw [h2] at l2
      go_enter Tryz.func119, Tryz.ntmps119
      go_wp2_with (first
        | (go_at_call 137; (first | (refine (l1.out _).mono ?_; clear l1) | refine (l2.out _).mono ?_); rintro e w1 ⟨rfl, hE1⟩; replace hE := hE.trans hE1; clear hE1)
        | (go_at_call 134; (first | (refine (s1.out _).mono ?_; clear s1) | refine (s2.out _).mono ?_); rintro e w1 ⟨rfl, hE1⟩; replace hE := hE.trans hE1; clear hE1)
        | (go_at_call 176; refine (hmul.out _ (HL.out.ext hE)).mono ?_; rintro e w1 ⟨rfl, hE1⟩; replace hE := hE.trans hE1; clear hE1)
        | (go_at_call 175; refine (J.out _ _).mono ?_; rintro e w1 ⟨rfl, hE1⟩; replace hE := hE.trans hE1; clear hE1))
      go_ret
      exact ⟨ret_val (congrArg I R.out), hE⟩
theorem Mul_any {a b : Int} (hab : nd a + nd b ≤ LIM) {w : World} (hL : Laid w) :
  Calls Tryz.prog 119 #[I a, I b] w fun e w' => e = .returned (I (a * b)) ∧ Ext w w' := by
 cases h1 : fits 9 a
 ·exact Mul_slow (.inl h1) hab hL
 ·cases h2 : fits 9 b
  ·exact Mul_slow (.inr ⟨h1, h2⟩) hab hL
  ·exact Mul_fast h1 h2 (by omega) (by omega) hL
def cmpZ (a b : Int) : Int := if a < b then -1 else if b < a then 1 else 0
set_option maxHeartbeats 2000000 in
theorem Compare_any {a b : Int} (ha : nd a ≤ LIM) (hb : nd b ≤ LIM) (w : World) :
    Calls Tryz.prog 242 #[I a, I b] w fun e w' => e = .returned (.int .i64 (cmpZ a b)) ∧ Ext w w' := by
  have g1 := Lib.hid (Sign_any a)
  have g2 := Lib.hid (Sign_any b)
  have s1 := Lib.hid (split_any (z := a) ha)
  have s2 := Lib.hid (split_any (z := b) hb)
  have c1 := Lib.hid (dCompare_any (u := a.natAbs) (v := b.natAbs) ha hb)
  have c2 := Lib.hid (dCompare_any (u := b.natAbs) (v := a.natAbs) hb ha)
  clear ha hb
  have hE := Ext.refl w
  have sg : ∀ z : Int, (z < 0 ∧ z.sign = -1) ∨ (z = 0 ∧ z.sign = 0) ∨ (0 < z ∧ z.sign = 1) := fun z => by
    rcases Int.lt_trichotomy z 0 with h | h | h
    · exact .inl ⟨h, Int.sign_eq_neg_one_of_neg h⟩
    · exact .inr (.inl ⟨h, by subst h; rfl⟩)
    · exact .inr (.inr ⟨h, Int.sign_eq_one_of_pos h⟩)
  rcases sg a with ⟨ga, ea⟩ | ⟨ga, ea⟩ | ⟨ga, ea⟩ <;> rcases sg b with ⟨gb, eb⟩ | ⟨gb, eb⟩ | ⟨gb, eb⟩ <;> rw [ea] at g1 <;> rw [eb] at g2
  all_goals
    first
      | (have R : cmpZ a b = -1 := by (unfold cmpZ; rw [if_pos (by omega)])
         rw [R])
      | (have R : cmpZ a b = 1 := by (unfold cmpZ; rw [if_neg (by omega), if_pos (by omega)])
         rw [R])
      | (have R : cmpN a.natAbs b.natAbs = cmpZ a b := by
          unfold cmpZ cmpN
          (repeat' split) <;> omega
         rw [R] at c1
         clear c2)
      | (have R : cmpN b.natAbs a.natAbs = cmpZ a b := by
          unfold cmpZ cmpN
          (repeat' split) <;> omega
         rw [R] at c2
         clear c1)
    try rw [decide_eq_true ga] at s1
    try rw [decide_eq_false (p := a < 0) (by omega)] at s1
    clear ga gb ea eb R sg
    generalize cmpZ a b = cc at *
    go_enter Tryz.func242, Tryz.ntmps242
    go_wp2_with (first
        | (go_at_call 80; (first | (refine (g1.out _).mono ?_; clear g1) | refine (g2.out _).mono ?_); rintro e w1 ⟨rfl, hE1⟩; replace hE := hE.trans hE1; clear hE1)
        | (go_at_call 134; (first | (refine (s1.out _).mono ?_; clear s1) | refine (s2.out _).mono ?_); rintro e w1 ⟨rfl, hE1⟩; replace hE := hE.trans hE1; clear hE1)
        | (go_at_call 164; (first | refine (c1.out _).mono ?_ | refine (c2.out _).mono ?_); rintro e w1 ⟨rfl, hE1⟩; replace hE := hE.trans hE1; clear hE1))
    go_ret
    exact ⟨rfl, hE⟩
theorem fdm_pos {a b q r : Int} (hb : 0 < b) (h : r + b * q = a) (h0 : 0 ≤ r) (h1 : r < b) : a.fdiv b = q ∧ a.fmod b = r := (Int.fdiv_fmod_unique hb).2 ⟨h, h0, h1⟩
theorem fdm_neg {a b q r : Int} (hb : b < 0) (h : r + b * q = a) (h0 : b < r) (h1 : r ≤ 0) : a.fdiv b = q ∧ a.fmod b = r := (Int.fdiv_fmod_unique' hb).2 ⟨h, h0, h1⟩
theorem fdm_of_t {a b : Int} (hb : b ≠ 0) :
  (a.tmod b = 0 ∧ a.fdiv b = a.tdiv b ∧ a.fmod b = a.tmod b)
  ∨ (a.tmod b < 0 ∧ b < 0 ∧ a.fdiv b = a.tdiv b ∧ a.fmod b = a.tmod b)
  ∨ (0 < a.tmod b ∧ 0 < b ∧ a.fdiv b = a.tdiv b ∧ a.fmod b = a.tmod b)
  ∨ (a.tmod b < 0 ∧ 0 < b ∧ a.fdiv b = a.tdiv b - 1 ∧ a.fmod b = a.tmod b + b)
  ∨ (0 < a.tmod b ∧ b < 0 ∧ a.fdiv b = a.tdiv b - 1 ∧ a.fmod b = a.tmod b + b) := by
 have h1 : a.tmod b + b * a.tdiv b = a := Int.tmod_add_mul_tdiv a b
 have h2 : (a.tmod b).natAbs < b.natAbs := by rw [Int.natAbs_tmod]; exact Nat.mod_lt _ (by omega)
 generalize a.tmod b = r at *
 generalize a.tdiv b = q at *
 have h3 : r + b + b * (q - 1) = a := by rw [Int.mul_sub, ← h1]; omega
 rcases Int.lt_trichotomy r 0 with hr | hr | hr
 ·rcases Int.lt_or_gt_of_ne hb with hb' | hb'
  ·exact .inr (.inl ⟨hr, hb', fdm_neg hb' h1 (by omega) (by omega)⟩)
  ·exact .inr (.inr (.inr (.inl ⟨hr, hb', fdm_pos hb' h3 (by omega) (by omega)⟩)))
 ·rcases Int.lt_or_gt_of_ne hb with hb' | hb'
  ·exact .inl ⟨hr, fdm_neg hb' h1 (by omega) (by omega)⟩
  ·exact .inl ⟨hr, fdm_pos hb' h1 (by omega) (by omega)⟩
 ·rcases Int.lt_or_gt_of_ne hb with hb' | hb'
  ·exact .inr (.inr (.inr (.inr ⟨hr, hb', fdm_neg hb' h3 (by omega) (by omega)⟩)))
  ·exact .inr (.inr (.inl ⟨hr, hb', fdm_pos hb' h1 (by omega) (by omega)⟩))
set_option maxHeartbeats 2000000 in
theorem DivMod_fast {a b : Int} (h1 : fits 18 a = true) (h2 : fits 18 b = true) (ha : nd a ≤ LIM) (hb : nd b ≤ LIM) (hb0 : b ≠ 0) {w : World} (hL : Laid w) :
  Calls Tryz.prog 118 #[I a, I b] w fun e w' => e = .returned (.tuple #[I (a.fdiv b), I (a.fmod b), .int .i64 0]) ∧ Ext w w' := by
 have HL := Lib.hid hL
 have b1 := fits_lt h1
 have b2 := fits_lt h2
 have l1 := Lib.hid (little_any (z := a) (m := 18) ha (by omega))
 have l2 := Lib.hid (little_any (z := b) (m := 18) hb (by omega))
 rw [h1] at l1; rw [h2] at l2
 have hz : (Lib.itoa b == [48]) = false := by rw [itoa_eq_zero]; exact decide_eq_false hb0
 have hbz : (b == 0) = false := beq_eq_false_iff_ne.2 hb0
 have hq : (a.tdiv b).natAbs < 10 ^ 18 := by rw [Int.natAbs_tdiv]; exact Nat.lt_of_le_of_lt (Nat.div_le_self _ _) b1
 have hr : (a.tmod b).natAbs < b.natAbs := by rw [Int.natAbs_tmod]; exact Nat.mod_lt _ (by omega)
 have hd := fdm_of_t (a := a) hb0
 obtain ⟨q, hqe⟩ : ∃ q, q = a.tdiv b := ⟨_, rfl⟩
 obtain ⟨r, hre⟩ : ∃ r, r = a.tmod b := ⟨_, rfl⟩
 rw [← hqe] at hq hd
 rw [← hre] at hr hd
 have hqe' := hqe.symm
 have hre' := hre.symm
 have wq : IntKind.i64.wrap q = q := by rw [IntKind.wrap_i64]; omega
 have wr : IntKind.i64.wrap r = r := by rw [IntKind.wrap_i64]; omega
 have wq1 : IntKind.i64.wrap (q - 1) = q - 1 := by rw [IntKind.wrap_i64]; omega
 have hrn : r ≠ 0 → (r != 0) = true ∧ ¬ r = 0 := fun h => ⟨bne_iff_ne.2 h, h⟩
 have hrz : r = 0 → (r == 0) = true := fun h => beq_iff_eq.2 h
 have o1 := Lib.hid (fun w hL => wholeOf_any (n := a.fdiv b) (w := w) (by omega) (by omega) hL)
 have o2 := Lib.hid (fun w hL => wholeOf_any (n := a.fmod b) (w := w) (by omega) (by omega) hL)
 have hE := Ext.refl w
 rcases hd with ⟨d1, d2, d3⟩ | ⟨d1, d2, d3, d4⟩ | ⟨d1, d2, d3, d4⟩ | ⟨d1, d2, d3, d4⟩ | ⟨d1, d2, d3, d4⟩
 all_goals
  first
   | have hrr := hrz (by omega)
   | obtain ⟨hrr, hrr0⟩ := hrn (by omega)
  clear hrz hrn
  try rw [d2] at o1
  try rw [d2]
  try rw [d3] at o1
  try rw [d3] at o2
  try rw [d3]
  try rw [d4] at o2
  try rw [d4]
  try (have dd3 : ¬ r < 0 := by omega)
  try (have dd4 : ¬ b < 0 := by omega)
  try (have dd3 : r < 0 := by omega)
  try (have dd4 : b < 0 := by omega)
  try (have dd1 : decide (r < 0) = false := decide_eq_false (by omega))
  try (have dd1 : decide (r < 0) = true := decide_eq_true (by omega))
  try (have dd2 : decide (b < 0) = false := decide_eq_false (by omega))
  try (have dd2 : decide (b < 0) = true := decide_eq_true (by omega))
  clear d2 d3
  first
   | subst d1
   | clear d1
  try clear d4
  try (have wrb : IntKind.i64.wrap (r + b) = r + b := by rw [IntKind.wrap_i64]; omega)
  clear b1 b2 h1 h2 ha hb hL hq hr hqe hre
  have hbe : (b = 0) = False := eq_false hb0
  go_enter Tryz.func118, Tryz.ntmps118
  go_wp2_with fail
  refine (l1.out _).mono ?_
  rintro e w1 ⟨rfl, hE1⟩
  go_wp2_with fail
  refine (l2.out _).mono ?_
  rintro e w2 ⟨rfl, hE2⟩
  go_wp2_with fail
  go_region
  go_wp2_with fail
  refine (o1.out _ (HL.out.ext (hE1.trans hE2).drew)).mono ?_
  rintro e w3 ⟨rfl, hE3⟩
  have hE13 := (hE1.trans hE2).drew.trans hE3
  go_wp2_with fail
  refine (o2.out _ (HL.out.ext hE13)).mono ?_
  rintro e w4 ⟨rfl, hE4⟩
  go_wp2_with fail
  go_ret3
  exact ⟨rfl, hE13.trans hE4⟩
theorem fdm_nat {a b : Int} (hb : b ≠ 0) (q r : Nat) (hq : q = a.natAbs / b.natAbs) (hr : r = a.natAbs % b.natAbs) :
  ((a < 0 ↔ b < 0) ∧ a.fdiv b = q ∧ a.fmod b = (if b < 0 then -(r : Int) else r)) ∨
  (¬ (a < 0 ↔ b < 0) ∧ r = 0 ∧ a.fdiv b = -(q : Int) ∧ a.fmod b = 0) ∨
  (¬ (a < 0 ↔ b < 0) ∧ r ≠ 0 ∧ a.fdiv b = -((q + 1 : Nat) : Int) ∧ a.fmod b = (if b < 0 then -((b.natAbs - r : Nat) : Int) else ((b.natAbs - r : Nat) : Int))) := by
 have hbn : 0 < b.natAbs := by omega
 have h1 : r + b.natAbs * q = a.natAbs := by rw [hq, hr]; exact Nat.mod_add_div _ _
 have h2 : r < b.natAbs := by rw [hr]; exact Nat.mod_lt _ hbn
 clear hq hr
 have h1' : (r : Int) + (b.natAbs : Int) * q = a.natAbs := by rw [← h1]; simp
 generalize hB : b.natAbs = B at *
 generalize hA : a.natAbs = A at *
 by_cases ha : a < 0 <;> by_cases hb' : b < 0
 ·have ea : a = -(A : Int) := by omega
  have eb : b = -(B : Int) := by omega
  refine .inl ⟨by simp [ha, hb'], ?_⟩
  rw [if_pos hb']
  refine fdm_neg hb' ?_ (by omega) (by omega)
  rw [ea, eb, ← h1']; grind
 ·have ea : a = -(A : Int) := by omega
  have eb : b = (B : Int) := by omega
  by_cases hr : r = 0
  ·refine .inr (.inl ⟨by simp [ha, hb'], hr, ?_⟩)
   refine fdm_pos (by omega) ?_ (by omega) (by omega)
   rw [ea, eb, ← h1', hr]; grind
  ·refine .inr (.inr ⟨by simp [ha, hb'], hr, ?_⟩)
   rw [if_neg hb']
   refine fdm_pos (by omega) ?_ (by omega) (by omega)
   rw [ea, eb, ← h1', Int.natCast_sub (by omega)]; grind
 ·have ea : a = (A : Int) := by omega
  have eb : b = -(B : Int) := by omega
  by_cases hr : r = 0
  ·refine .inr (.inl ⟨by simp [ha, hb'], hr, ?_⟩)
   refine fdm_neg (by omega) ?_ (by omega) (by omega)
   rw [ea, eb, ← h1', hr]; grind
  ·refine .inr (.inr ⟨by simp [ha, hb'], hr, ?_⟩)
   rw [if_pos hb']
   refine fdm_neg (by omega) ?_ (by omega) (by omega)
   rw [ea, eb, ← h1', Int.natCast_sub (by omega)]; grind
 ·have ea : a = (A : Int) := by omega
  have eb : b = (B : Int) := by omega
  refine .inl ⟨by simp [ha, hb'], ?_⟩
  rw [if_neg hb']
  refine fdm_pos (by omega) ?_ (by omega) (by omega)
  rw [ea, eb, ← h1']
theorem D_one : D 1 = S [49] := by unfold D; rw [Lib.decDigits]; rfl
set_option maxHeartbeats 4000000 in
theorem DivMod_slow {a b : Int} (hs : fits 18 a = false ∨ fits 18 a = true ∧ fits 18 b = false) (ha : nd a < LIM) (hb : nd b < LIM) (hb0 : b ≠ 0) {w : World} (hL : Laid w) :
    Calls Tryz.prog 118 #[I a, I b] w fun e w' => e = .returned (.tuple #[I (a.fdiv b), I (a.fmod b), .int .i64 0]) ∧ Ext w w' := by
  have HL := Lib.hid hL
  have hz : (Lib.itoa b == [48]) = false := by rw [itoa_eq_zero]; exact decide_eq_false hb0
  have l1 := Lib.hid (little_any (z := a) (m := 18) (Nat.le_of_lt ha) (by omega))
  have l2 := Lib.hid (little_any (z := b) (m := 18) (Nat.le_of_lt hb) (by omega))
  have s1 := Lib.hid (split_any (z := a) (Nat.le_of_lt ha))
  have s2 := Lib.hid (split_any (z := b) (Nat.le_of_lt hb))
  have ha' : Lib.nDigits a.natAbs < LIM := ha
  have hb' : Lib.nDigits b.natAbs < LIM := hb
  have hdm := Lib.hid (fun w hL => dDivMod_any (w := w) ha' hb' (by omega) hL)
  have hfd := fdm_nat (a := a) hb0 _ _ rfl rfl
  have hrb : a.natAbs % b.natAbs < b.natAbs := Nat.mod_lt _ (by omega)
  have nq : Lib.nDigits (a.natAbs / b.natAbs) < LIM := Nat.lt_of_le_of_lt (nDigits_mono (Nat.div_le_self _ _)) ha'
  have nr : Lib.nDigits (a.natAbs % b.natAbs) < LIM := Nat.lt_of_le_of_lt (nDigits_mono (Nat.le_of_lt hrb)) hb'
  clear ha hb hb0 ha' hL
  generalize a.natAbs / b.natAbs = q at *
  generalize a.natAbs % b.natAbs = r at *
  have hadd := Lib.hid (fun w hL => dAdd_any (u := q) (v := 1) (w := w) nq (by unfold LIM; exact Nat.lt_of_le_of_lt (nDigits_le (u := 1) (k := 1) (by omega) (by omega)) (by omega)) hL)
  rw [D_one] at hadd
  have hsub := Lib.hid (fun w hL => dSub_any (u := b.natAbs) (v := r) (w := w) hb' (Nat.le_of_lt hrb) hL)
  have nq1 : Lib.nDigits (q + 1) ≤ LIM := by
    have := nd_add (q : Int) 1
    unfold nd at this
    rw [show ((q : Int) + 1).natAbs = q + 1 by omega] at this
    simp only [Int.natAbs_natCast] at this
    have h1 : Lib.nDigits (Int.natAbs 1) ≤ 1 := nDigits_le (u := 1) (k := 1) (by omega) (by omega)
    have := Lib.nDigits_pos q
    omega
  have nbr : Lib.nDigits (b.natAbs - r) ≤ LIM := Nat.le_trans (nDigits_mono (Nat.sub_le _ _)) (Nat.le_of_lt hb')
  have J1 := Lib.hid (fun c w => join_any c q (Nat.le_of_lt nq) w)
  have J2 := Lib.hid (fun c w => join_any c r (Nat.le_of_lt nr) w)
  have J3 := Lib.hid (fun c w => join_any c (q + 1) nq1 w)
  have J4 := Lib.hid (fun c w => join_any c (b.natAbs - r) nbr w)
  clear hb' hrb nq nr nq1 nbr
  generalize b.natAbs - r = d at *
  generalize hq1 : q + 1 = q1 at *
  clear hq1
  generalize b.natAbs = bn at *
  have hrz : (Lib.decDigits r == [48]) = decide (r = 0) := dec_eq_zero r
  have hE := Ext.refl w
  rcases hfd with ⟨e0, e1, e2⟩ | ⟨e0, e1, e2, e3⟩ | ⟨e0, e1, e2, e3⟩
  case inl =>
    clear hadd hsub J3 J4 hrz
    rcases neg_or a with ⟨ga, ea⟩ | ⟨ga, ea⟩ <;> rcases neg_or b with ⟨gb, eb⟩ | ⟨gb, eb⟩ <;> first | (exfalso; omega) | skip
    all_goals
      rw [ea] at s1; rw [eb] at s2
      first | rw [if_pos gb] at e2 | rw [if_neg (by omega)] at e2
      have E1 := Lib.hid e1
      have E2 := Lib.hid e2
      clear ga gb ea eb e0 e1 e2
      rcases hs with h1 | ⟨h1, h2⟩
      all_goals
        rw [h1] at l1
        try rw [h2] at l2
        go_enter Tryz.func118, Tryz.ntmps118
        go_wp2_with (first
          | (go_at_call 137; (first | (refine (l1.out _).mono ?_; clear l1) | refine (l2.out _).mono ?_); rintro e w1 ⟨rfl, hE1⟩; replace hE := hE.trans hE1; clear hE1)
          | (go_at_call 134; (first | (refine (s1.out _).mono ?_; clear s1) | refine (s2.out _).mono ?_); rintro e w1 ⟨rfl, hE1⟩; replace hE := hE.trans hE1; clear hE1)
          | (go_at_call 172; refine (hdm.out _ (HL.out.ext hE)).mono ?_; rintro e w1 ⟨rfl, hE1⟩; replace hE := hE.trans hE1; clear hE1)
          | (go_at_call 175; (first | (refine (J1.out _ _).mono ?_; clear J1) | refine (J2.out _ _).mono ?_); rintro e w1 ⟨rfl, hE1⟩; replace hE := hE.trans hE1; clear hE1))
        go_ret3
        exact ⟨ret_val (by rw [E1.out, E2.out]; rfl), hE⟩
  case inr.inl =>
    clear hadd hsub J3 J4
    rw [decide_eq_true e1] at hrz
    rcases neg_or a with ⟨ga, ea⟩ | ⟨ga, ea⟩ <;> rcases neg_or b with ⟨gb, eb⟩ | ⟨gb, eb⟩ <;> first | (exfalso; omega) | skip
    all_goals
      rw [ea] at s1; rw [eb] at s2
      have E1 := Lib.hid e2
      have E2 := Lib.hid e3
      have R := Lib.hid e1
      clear ga gb ea eb e0 e1 e2 e3
      rcases hs with h1 | ⟨h1, h2⟩
      all_goals
        rw [h1] at l1
        try rw [h2] at l2
        go_enter Tryz.func118, Tryz.ntmps118
        go_wp2_with (first
          | (go_at_call 137; (first | (refine (l1.out _).mono ?_; clear l1) | refine (l2.out _).mono ?_); rintro e w1 ⟨rfl, hE1⟩; replace hE := hE.trans hE1; clear hE1)
          | (go_at_call 134; (first | (refine (s1.out _).mono ?_; clear s1) | refine (s2.out _).mono ?_); rintro e w1 ⟨rfl, hE1⟩; replace hE := hE.trans hE1; clear hE1)
          | (go_at_call 172; refine (hdm.out _ (HL.out.ext hE)).mono ?_; rintro e w1 ⟨rfl, hE1⟩; replace hE := hE.trans hE1; clear hE1)
          | (go_at_call 175; (first | (refine (J1.out _ _).mono ?_; clear J1) | refine (J2.out _ _).mono ?_); rintro e w1 ⟨rfl, hE1⟩; replace hE := hE.trans hE1; clear hE1))
        go_ret3
        exact ⟨ret_val (by rw [E1.out, E2.out, R.out]; rfl), hE⟩
  case inr.inr =>
    clear J1 J2
    rw [decide_eq_false e1] at hrz
    rcases neg_or a with ⟨ga, ea⟩ | ⟨ga, ea⟩ <;> rcases neg_or b with ⟨gb, eb⟩ | ⟨gb, eb⟩ <;> first | (exfalso; omega) | skip
    all_goals
      rw [ea] at s1; rw [eb] at s2
      first | rw [if_pos gb] at e3 | rw [if_neg (by omega)] at e3
      have E1 := Lib.hid e2
      have E2 := Lib.hid e3
      clear ga gb ea eb e0 e1 e2 e3
      rcases hs with h1 | ⟨h1, h2⟩
      all_goals
        rw [h1] at l1
        try rw [h2] at l2
        go_enter Tryz.func118, Tryz.ntmps118
        go_wp2_with (first
          | (go_at_call 137; (first | (refine (l1.out _).mono ?_; clear l1) | refine (l2.out _).mono ?_); rintro e w1 ⟨rfl, hE1⟩; replace hE := hE.trans hE1; clear hE1)
          | (go_at_call 134; (first | (refine (s1.out _).mono ?_; clear s1) | refine (s2.out _).mono ?_); rintro e w1 ⟨rfl, hE1⟩; replace hE := hE.trans hE1; clear hE1)
          | (go_at_call 172; refine (hdm.out _ (HL.out.ext hE)).mono ?_; rintro e w1 ⟨rfl, hE1⟩; replace hE := hE.trans hE1; clear hE1)
          | (go_at_call 173; refine (hadd.out _ (HL.out.ext hE)).mono ?_; rintro e w1 ⟨rfl, hE1⟩; replace hE := hE.trans hE1; clear hE1)
          | (go_at_call 174; refine (hsub.out _ (HL.out.ext hE)).mono ?_; rintro e w1 ⟨rfl, hE1⟩; replace hE := hE.trans hE1; clear hE1)
          | (go_at_call 175; (first | (refine (J3.out _ _).mono ?_; clear J3) | refine (J4.out _ _).mono ?_); rintro e w1 ⟨rfl, hE1⟩; replace hE := hE.trans hE1; clear hE1))
        go_ret3
        exact ⟨ret_val (by rw [E1.out, E2.out]; rfl), hE⟩
theorem DivMod_any {a b : Int} (ha : nd a < LIM) (hb : nd b < LIM) (hb0 : b ≠ 0) {w : World} (hL : Laid w) :
  Calls Tryz.prog 118 #[I a, I b] w fun e w' => e = .returned (.tuple #[I (a.fdiv b), I (a.fmod b), .int .i64 0]) ∧ Ext w w' := by
 cases h1 : fits 18 a
 ·exact DivMod_slow (.inl h1) ha hb hb0 hL
 ·cases h2 : fits 18 b
  ·exact DivMod_slow (.inr ⟨h1, h2⟩) ha hb hb0 hL
  ·exact DivMod_fast h1 h2 (Nat.le_of_lt ha) (Nat.le_of_lt hb) hb0 hL
end Go.Proofs.YtedlgnoiojcjaaaGreatDoor
namespace Go.Proofs.YtedlgnoiojcjaaaGreatDoor
def subK (k : Int) : List Int → List Int → List Int
 | a, [] => a
 | [], _ :: _ => []
 | x :: a, y :: b => (x - k * y) :: subK k a b
@[simp] theorem subK_length (k : Int) : ∀ a b : List Int, (subK k a b).length = a.length
 | a, [] => by cases a <;> rfl
 | [], _ :: _ => rfl
 | x :: a, y :: b => by simp [subK, subK_length k a b]
theorem subK_nil (k : Int) (a : List Int) : subK k a [] = a := by cases a <;> rfl
theorem subK_get (k : Int) : ∀ (a b : List Int) (i : Nat) (h : i < a.length) (_ : b.length ≤ i), (subK k a b)[i]'(by simpa using h) = a[i]
 | a, [], i, h, _ => by simp only [subK_nil]
 | [], _ :: _, i, h, _ => by cases h
 | x :: a, y :: b, 0, h, hb => by simp at hb
 | x :: a, y :: b, i + 1, h, hb => by
  simp only [subK, List.getElem_cons_succ]
  exact subK_get k a b i (by simpa using h) (by simpa using hb)
theorem subK_step (k : Int) : ∀ (a b : List Int) (i : Nat) (hb : i < b.length) (h : i < a.length), subK k a (b.take (i + 1)) = (subK k a (b.take i)).set i (a[i] - k * b[i])
 | a, [], i, hb, h => by cases hb
 | [], _ :: _, i, hb, h => by cases h
 | x :: a, y :: b, 0, hb, h => by simp [subK, subK_nil]
 | x :: a, y :: b, i + 1, hb, h => by
  simp only [List.take_succ_cons, subK, List.set_cons_succ, List.getElem_cons_succ]
  rw [subK_step k a b i (by simpa using hb) (by simpa using h)]
theorem subK_zero : ∀ (a b : List Int), b.length ≤ a.length → subK 0 a b = a
 | a, [], _ => subK_nil 0 a
 | [], _ :: _, h => by simp at h
 | x :: a, y :: b, h => by simp only [subK, Int.zero_mul, Int.sub_zero]; rw [subK_zero a b (by simpa using h)]
theorem subK_getD (k : Int) : ∀ (a b : List Int) (c : Nat), b.length ≤ a.length → (subK k a b).getD c 0 = a.getD c 0 - k * b.getD c 0
 | a, [], c, _ => by simp [subK_nil]
 | [], _ :: _, _, h => by simp at h
 | x :: a, y :: b, 0, _ => by simp [subK]
 | x :: a, y :: b, c + 1, h => by
  simp only [subK, List.getD_cons_succ]
  exact subK_getD k a b c (by simpa using h)
abbrev Ln := List Int × List Int
def lsub (k : Int) (a b : Ln) : Ln := (subK k a.1 b.1, subK k a.2 b.2)
def lneg (a : Ln) : Ln := (a.1.map (fun z => -z), a.2.map (fun z => -z))
end Go.Proofs.YtedlgnoiojcjaaaGreatDoor
namespace Go.Proofs.YtedlgnoiojcjaaaGreatDoor
open Go.RowKit Go.Sort
structure Chg (R : Nat → Prop) (w w' : World) : Prop where
 os : w'.os = w.os
 tape : w'.tape = w.tape
 output : w'.output = w.output
 size : w.heap.size ≤ w'.heap.size
 block : ∀ k, k < w.heap.size → ¬ R k → w'.heap[k]? = w.heap[k]?
theorem Chg.of_ext {R : Nat → Prop} {w w' : World} (h : Ext w w') : Chg R w w' := ⟨Below.os h, Below.tape h, Below.output h, h.size, fun k hk _ => h.block k hk⟩
theorem Chg.refl (R : Nat → Prop) (w : World) : Chg R w w := .of_ext (Ext.refl w)
theorem Chg.of_grown {R : Nat → Prop} {w w' : World} {g : Nat} (h : w.grownBy w' (some g)) (hg : R g) : Chg R w w' :=
 ⟨h.os, h.tape, h.output, h.size, fun k hk hR => h.block k hk (fun e => by injection e with e; subst e; exact hR hg)⟩
theorem Chg.trans {R : Nat → Prop} {a b c : World} (h : Chg R a b) (k : Chg R b c) : Chg R a c :=
 ⟨k.os.trans h.os, k.tape.trans h.tape, k.output.trans h.output, Nat.le_trans h.size k.size, fun i hi hR => (k.block i (Nat.lt_of_lt_of_le hi h.size) hR).trans (h.block i hi hR)⟩
theorem Chg.mono {R R' : Nat → Prop} {a b : World} (h : Chg R a b) (hR : ∀ k, k < a.heap.size → R k → R' k) : Chg R' a b :=
 ⟨h.os, h.tape, h.output, h.size, fun k hk hn => h.block k hk (fun hr => hn (hR k hk hr))⟩
theorem Chg.ext {R : Nat → Prop} {w0 a b : World} (h : Chg R a b) (he : Ext w0 a) (hR : ∀ k, R k → w0.heap.size ≤ k) : Ext w0 b :=
 Ext.mk' ⟨h.os.trans (Below.os he), h.tape.trans (Below.tape he), h.output.trans (Below.output he), Nat.le_trans he.size h.size, fun k hk =>
  (h.block k (Nat.lt_of_lt_of_le hk he.size) (fun hr => by have := hR k hr; omega)).trans (he.block k hk)⟩
theorem Chg.cell {R : Nat → Prop} {a b : World} (h : Chg R a b) {g o : Nat} {v : Value} (hg : ¬ R g) (hc : a.cell? ⟨g, o, none⟩ = some v) : b.cell? ⟨g, o, none⟩ = some v := by
 have hb : g < a.heap.size := World.block_lt_of_cell? _ _ hc
 have := h.block g hb hg
 unfold World.cell? at *
 rw [this]; exact hc
theorem Chg.own {R : Nat → Prop} {a b : World} (h : Chg R a b) {T : TypeId} {B g cap : Nat} {xs : List Value} (hg : ¬ R g) (hO : OwnV T B a g cap xs) : OwnV T B b g cap xs := by
 obtain ⟨cur, h1, h2, h3, h4, h5, h6⟩ := hO.parts
 exact OwnV.of h1 (by rw [h.block g hO.lt.2 hg]; exact h2) h3 h4 h5 h6
theorem Chg.sl {R : Nat → Prop} {a b : World} (h : Chg R a b) {ga : Option Addr} {gb go : Nat} {xs : List Value} (hg : ¬ R gb) (hS : Sl a ga gb go xs) : Sl b ga gb go xs :=
 ⟨hS.addr, fun i x hx => h.cell hg (hS.cell i x hx)⟩
theorem Sl.alloc {w : World} {ga : Option Addr} {gb go : Nat} {xs : List Value} (h : Sl w ga gb go xs) (o : Obj) : Sl (w.alloc o) ga gb go xs := h.ext ((Ext.refl w).alloc o)
theorem Tryz.infoStr : (Tryz.prog.info? 61).map (fun i => (i.zero, i.size, i.bytes)) = some (some (.string ⟨#[]⟩), 1, 16) := by kernel_rfl
end Go.Proofs.YtedlgnoiojcjaaaGreatDoor
