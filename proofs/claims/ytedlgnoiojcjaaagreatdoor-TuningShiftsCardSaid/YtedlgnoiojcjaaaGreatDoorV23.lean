/- Part 23 of the proof of the claim: contracts of the functions that it reaches, and plain laws; no condition. -/
import Derived.Test.YtedlgnoiojcjaaaGreatDoorV09
import Derived.Test.YtedlgnoiojcjaaaGreatDoorV04
import Derived.Test.YtedlgnoiojcjaaaGreatDoorV01
set_option maxRecDepth 100000
namespace Go.Proofs.YtedlgnoiojcjaaaGreatDoor
open Go.RowKit Go.Sort
theorem I_nat (u : Nat) : I (u : Int) = D u := by unfold I D; rw [itoa_nat]
set_option maxHeartbeats 1000000 in
theorem dGcd_any {u v : Nat} (hu : Lib.nDigits u < LIM) (hv : Lib.nDigits v < LIM) {w : World} (hL : Laid w) :
  Calls Tryz.prog 139 #[D u, D v] w fun e w' => e = .returned (D (Nat.gcd u v)) ∧ Ext w w' := by
 have HL := Lib.hid hL
 obtain ⟨g, hg⟩ : ∃ g, g = Nat.gcd u v := ⟨_, rfl⟩
 have H0 := Lib.hid (⟨hu, hv, hg.symm⟩ : Lib.nDigits u < LIM ∧ Lib.nDigits v < LIM ∧ Nat.gcd u v = g)
 rw [← hg]
 clear hL hu hv hg
 go_enter Tryz.func139, Tryz.ntmps139
 go_wp2_with fail
 go_loopg [0, 1, 5, 6, 7] v (fun k av bv _ _ _ wr => ∃ (x y : Nat), av = D x ∧ bv = D y ∧ k = y ∧ Hid (Lib.nDigits x < LIM ∧ Lib.nDigits y < LIM ∧ Nat.gcd x y = g) ∧ Ext w wr)
 case atStart => exact ⟨u, v, rfl, rfl, rfl, Lib.hid ⟨H0.out.1, H0.out.2.1, H0.out.2.2⟩, Ext.refl _⟩
 case round =>
  obtain ⟨x, y, rfl, rfl, rfl, HK, hE⟩ := hrel
  generalize wr = V at *
  by_cases hy : gk = 0
  ·have hvz : (Lib.decDigits gk == [48]) = true := by rw [dec_eq_zero, decide_eq_true hy]
   have Hg := Lib.hid (show g = x by have := HK.out.2.2; rw [hy, Nat.gcd_zero_right] at this; exact this.symm)
   clear hy
   go_wp2_with fail
   go_ret
   exact ⟨ret_val (by rw [Hg.out]; rfl), hE⟩
  ·have hvz : (Lib.decDigits gk == [48]) = false := by rw [dec_eq_zero, decide_eq_false hy]
   have hdm := Lib.hid (dDivMod_any HK.out.1 HK.out.2.1 hy (HL.out.ext hE))
   have Hm := Lib.hid (Nat.mod_lt x (Nat.pos_of_ne_zero hy))
   have HK2 := Lib.hid (show Lib.nDigits gk < LIM ∧ Lib.nDigits (x % gk) < LIM ∧ Nat.gcd gk (x % gk) = g from ⟨HK.out.2.1, Nat.lt_of_le_of_lt (nDigits_mono (Nat.le_of_lt Hm.out)) HK.out.2.1, by rw [← HK.out.2.2, Nat.gcd_comm gk, ← Nat.gcd_rec, Nat.gcd_comm]⟩)
   generalize x % gk = r at *
   clear hy HK
   go_wp2_with fail
   refine hdm.out.mono ?_
   rintro e w1 ⟨rfl, hE1⟩
   go_wp2_with fail
   go_roundg r
   case measure => exact Hm.out
   case rel => exact ⟨gk, r, rfl, rfl, rfl, HK2, hE.trans hE1⟩
theorem wgcd_any {u v : Nat} (hu : u < 1000000000000000000) (hv : v < 1000000000000000000) (w : World) :
  Calls Tryz.prog 138 #[.int .i64 u, .int .i64 v] w fun e w' => e = .returned (.int .i64 (Nat.gcd u v : Nat)) ∧ Ext w w' := by
 obtain ⟨g, hg⟩ : ∃ g, g = Nat.gcd u v := ⟨_, rfl⟩
 have H0 := Lib.hid hg.symm
 rw [← hg]
 clear hg
 go_enter Tryz.func138, Tryz.ntmps138
 go_wp2_with fail
 go_loopg [0, 1] v (fun k av bv wr => ∃ (x y : Nat), av = .int .i64 x ∧ bv = .int .i64 y ∧ k = y ∧ x < 1000000000000000000 ∧ y < 1000000000000000000 ∧ Hid (Nat.gcd x y = g) ∧ Ext w wr)
 case atStart => exact ⟨u, v, rfl, rfl, rfl, hu, hv, H0, Ext.refl _⟩
 case round =>
  obtain ⟨x, y, rfl, rfl, rfl, hx, hy, HK, hE⟩ := hrel
  generalize wr = V at *
  by_cases hz : gk = 0
  ·subst hz
   have Hg := Lib.hid (show g = x by have := HK.out; rw [Nat.gcd_zero_right] at this; exact this.symm)
   go_wp2_with fail
   go_ret
   exact ⟨ret_val (by rw [Hg.out]; rfl), hE⟩
  ·have hzi : ((gk : Int) == 0) = false := beq_eq_false_iff_ne.2 (by omega)
   have hr : Int.tmod (x : Int) (gk : Int) = ((x % gk : Nat) : Int) := by rw [Int.tmod_eq_emod_of_nonneg (by omega)]; omega
   have Hm := Nat.mod_lt x (Nat.pos_of_ne_zero hz)
   have HK2 := Lib.hid (show Nat.gcd gk (x % gk) = g by rw [← HK.out, Nat.gcd_comm gk, ← Nat.gcd_rec, Nat.gcd_comm])
   generalize x % gk = r at *
   clear hz HK
   go_wp2_with fail
   go_quiet (fail)
   go_wp2_with fail
   go_roundg r
   case measure => exact Hm
   case rel => exact ⟨gk, r, rfl, rfl, rfl, hy, by omega, HK2, hE.drewN _⟩
theorem fits_abs {z : Int} : fits 18 (z.natAbs : Int) = decide (Lib.nDigits z.natAbs ≤ 18) := by
 unfold fits; rw [itoa_nat, Lib.decDigits_length]
theorem wGcd_any {a b : Int} (ha : nd a < LIM) (hb : nd b < LIM) {w : World} (hL : Laid w) :
  Calls Tryz.prog 81 #[I a, I b] w fun e w' => e = .returned (I (Nat.gcd a.natAbs b.natAbs : Nat)) ∧ Ext w w' := by
 have HL := Lib.hid hL
 have h1 := Lib.hid (Abs_any (z := a) (Nat.le_of_lt ha))
 have h2 := Lib.hid (Abs_any (z := b) (Nat.le_of_lt hb))
 have l1 := Lib.hid (little_any (z := (a.natAbs : Int)) (m := 18) (by show Lib.nDigits _ ≤ _; rw [Int.natAbs_natCast]; exact Nat.le_of_lt ha) (by omega))
 have l2 := Lib.hid (little_any (z := (b.natAbs : Int)) (m := 18) (by show Lib.nDigits _ ≤ _; rw [Int.natAbs_natCast]; exact Nat.le_of_lt hb) (by omega))
 have hdg := Lib.hid (fun w hL => dGcd_any (u := a.natAbs) (v := b.natAbs) (w := w) ha hb hL)
 rw [fits_abs] at l1 l2
 rw [I_nat]
 rw [I_nat] at h1 h2 l1 l2
 clear hL ha hb
 generalize a.natAbs = u at *
 generalize b.natAbs = v at *
 by_cases hs1 : Lib.nDigits u ≤ 18
 ·rw [decide_eq_true hs1] at l1
  by_cases hs2 : Lib.nDigits v ≤ 18
  ·rw [decide_eq_true hs2] at l2
   rw [if_pos rfl] at l1 l2
   have b1 := lt_pow_of_nd hs1
   have b2 := lt_pow_of_nd hs2
   have hgl : Nat.gcd u v < 1000000000000000000 := by
    by_cases h0 : u = 0
    ·subst h0; rw [Nat.gcd_zero_left]; omega
    ·have := Nat.gcd_le_left v (Nat.pos_of_ne_zero h0); omega
   have hg := Lib.hid (wgcd_any (u := u) (v := v) (by omega) (by omega))
   have hof := Lib.hid (fun w hL => wholeOf_any (n := (Nat.gcd u v : Nat)) (w := w) (by omega) (by omega) hL)
   rw [I_nat] at hof
   clear hs1 hs2 hdg b1 b2
   generalize Nat.gcd u v = g at *
   go_enter Tryz.func81, Tryz.ntmps81
   go_wp2_with fail
   refine (h1.out _).mono ?_
   rintro e w1 ⟨rfl, hE1⟩
   go_wp2_with fail
   refine (h2.out _).mono ?_
   rintro e w2 ⟨rfl, hE2⟩
   go_wp2_with fail
   refine (l1.out _).mono ?_
   rintro e w3 ⟨rfl, hE3⟩
   go_wp2_with fail
   refine (l2.out _).mono ?_
   rintro e w4 ⟨rfl, hE4⟩
   go_wp2_with fail
   refine (hg.out _).mono ?_
   rintro e w5 ⟨rfl, hE5⟩
   go_wp2_with fail
   have hE := (((hE1.trans hE2).trans hE3).trans hE4).trans hE5
   refine (hof.out _ (HL.out.ext hE)).mono ?_
   rintro e w6 ⟨rfl, hE6⟩
   go_wp2_with fail
   go_ret
   exact ⟨rfl, hE.trans hE6⟩
  ·rw [decide_eq_false hs2] at l2
   rw [if_pos rfl] at l1
   clear hs1 hs2
   go_enter Tryz.func81, Tryz.ntmps81
   go_wp2_with fail
   refine (h1.out _).mono ?_
   rintro e w1 ⟨rfl, hE1⟩
   go_wp2_with fail
   refine (h2.out _).mono ?_
   rintro e w2 ⟨rfl, hE2⟩
   go_wp2_with fail
   refine (l1.out _).mono ?_
   rintro e w3 ⟨rfl, hE3⟩
   go_wp2_with fail
   refine (l2.out _).mono ?_
   rintro e w4 ⟨rfl, hE4⟩
   go_wp2_with fail
   have hE := ((hE1.trans hE2).trans hE3).trans hE4
   refine (hdg.out _ (HL.out.ext hE)).mono ?_
   rintro e w5 ⟨rfl, hE5⟩
   go_wp2_with fail
   go_ret
   exact ⟨rfl, hE.trans hE5⟩
 ·rw [decide_eq_false hs1] at l1
  clear hs1
  go_enter Tryz.func81, Tryz.ntmps81
  go_wp2_with fail
  refine (h1.out _).mono ?_
  rintro e w1 ⟨rfl, hE1⟩
  go_wp2_with fail
  refine (h2.out _).mono ?_
  rintro e w2 ⟨rfl, hE2⟩
  go_wp2_with fail
  refine (l1.out _).mono ?_
  rintro e w3 ⟨rfl, hE3⟩
  go_wp2_with fail
  have hE := (hE1.trans hE2).trans hE3
  refine (hdg.out _ (HL.out.ext hE)).mono ?_
  rintro e w5 ⟨rfl, hE5⟩
  go_wp2_with fail
  go_ret
  exact ⟨rfl, hE.trans hE5⟩
theorem two_alloc (w : World) (T : TypeId) (a b : Value) : OwnV T w.heap.size (w.alloc (.cells #[a, b] T)) w.heap.size 2 [a, b] :=
 OwnV.of (Nat.le_refl _) (by
  have h : (w.heap.push (.cells #[a, b] T))[w.heap.size]? = some (.cells #[a, b] T) := Array.getElem?_push_size
  exact h) (by simp) (by unfold maxLen; omega) rfl rfl
theorem two_end {T : TypeId} {B g : Nat} {w W : World} {a b : Value} (hE : Ext w W) (hg : w.heap.size ≤ g) (h : OwnV T B W g 2 [a, b]) (c d : Value) :
  W.cell? ⟨g, 0, none⟩ = some a ∧ W.cell? ⟨g, 1, none⟩ = some b ∧ W.frozen? ⟨g, 0, none⟩ = false ∧ W.frozen? ⟨g, 1, none⟩ = false ∧
   ((W.setCell ⟨g, 0, none⟩ c).setCell ⟨g, 1, none⟩ d).cell? ⟨g, 0, none⟩ = some c ∧ ((W.setCell ⟨g, 0, none⟩ c).setCell ⟨g, 1, none⟩ d).cell? ⟨g, 1, none⟩ = some d ∧
   Hid (Ext w ((W.setCell ⟨g, 0, none⟩ c).setCell ⟨g, 1, none⟩ d)) := by
 obtain ⟨h1, g1⟩ := h.set 0 c
 obtain ⟨h2, g2⟩ := h1.set 1 d
 exact ⟨h.cell (j := 0) (by simp), h.cell (j := 1) (by simp), h.frozen 0, h.frozen 1, h2.cell (j := 0) (by simp), h2.cell (j := 1) (by simp), Lib.hid (ext_trans_grown hE (grown_trans g1 g2) hg)⟩
theorem itoa_one : Lib.itoa 1 = [49] := by rw [show (1 : Int) = ((1 : Nat) : Int) from rfl, itoa_nat]; decide +kernel
theorem itoa_eq_1 (z : Int) : (Lib.itoa z == [49]) = decide (z = 1) := by
 by_cases h : z = 1
 ·subst h; rw [itoa_one]; simp
 ·rw [decide_eq_false h, beq_eq_false_iff_ne]
  exact fun hc => h (itoa_inj (hc.trans itoa_one.symm))
def RetF (w : World) (v : Value) (e : Ending) (w' : World) : Prop := e = .returned v ∧ Ext w w'
def qg (n d : Int) : Nat := Nat.gcd n.natAbs d.natAbs
def qn (n d : Int) : Int := (if d < 0 then -n else n) / (qg n d : Int)
def qd (n d : Int) : Int := (d.natAbs : Int) / (qg n d : Int)
theorem flittle_any {z : Int} (hn : nd z ≤ LIM) (w : World) :
  Calls Tryz.prog 181 #[I z] w fun e w' => e = .returned (.tuple #[.int .i64 (if fits 9 z then z else 0), .bool (fits 9 z)]) ∧ Ext w w' := by
 by_cases h : (Lib.itoa z).length ≤ 9
 ·have e : fits 9 z = true := decide_eq_true h
  rw [e, if_pos rfl]
  have hb : z.natAbs < 10 ^ 18 := by
   refine lt_pow_of_nd (k := 18) ?_
   have := itoa_length z; unfold nd at this; split at this <;> omega
  have hs : (⟨(Lib.itoa z).toArray⟩ : ByteArray).size ≤ 9223372036854775806 := by rw [I_size]; omega
  have H := Lib.hid (Tryz.strconv_Atoi_ok ⟨(Lib.itoa z).toArray⟩ hs z (atoi_itoa (by omega) (by omega)))
  have ht : ¬ (9 : Int) < ((Lib.itoa z).length : Int) := by omega
  clear hb hs h hn e
  go_enter Tryz.func181, Tryz.ntmps181
  go_wp2_with (first | (go_at_call 186; refine (H.out _).mono ?_; rintro e w1 ⟨rfl, hb1⟩))
  go_quiet (fail)
  go_wp2
  go_ret2
  refine ⟨rfl, ?_⟩
  rcases hb1 with rfl | ⟨t, rfl⟩
  ·exact (Ext.refl _).drewN _
  ·exact (ext_bytesWorld _ _ _).drewN _
 ·have e : fits 9 z = false := decide_eq_false h
  rw [e]
  have hl : (Lib.itoa z).length ≤ 1000000000001 := by rw [itoa_length]; unfold LIM at hn; split <;> omega
  have ht : (9 : Int) < ((Lib.itoa z).length : Int) := by omega
  have hr : (if false = true then z else 0) = 0 := rfl
  rw [hr]
  clear hn h hr e
  unfold I
  generalize Lib.itoa z = l at *
  go_enter Tryz.func181, Tryz.ntmps181
  go_wp2
  go_ret2
  exact ⟨rfl, Ext.refl _⟩
theorem fboth_any {a b : Int} (ha : nd a ≤ LIM) (hb : nd b ≤ LIM) (w : World) :
  Calls Tryz.prog 128 #[.agg #[I a, I b]] w fun e w' => e = .returned (.tuple #[.int .i64 (if fits 9 a then a else 0), .int .i64 (if fits 9 b then b else 0), .bool (fits 9 a && fits 9 b)]) ∧ Ext w w' := by
 have l1 := Lib.hid (flittle_any ha)
 have l2 := Lib.hid (flittle_any hb)
 obtain ⟨x, hx⟩ : ∃ x, x = (if fits 9 a then a else 0) := ⟨_, rfl⟩
 obtain ⟨y, hy⟩ : ∃ y, y = (if fits 9 b then b else 0) := ⟨_, rfl⟩
 rw [← hx] at l1 ⊢
 rw [← hy] at l2 ⊢
 clear hx hy ha hb
 generalize fits 9 a = f1 at *
 generalize fits 9 b = f2 at *
 have hX : Ext w (w.alloc (.cells #[I a, I b] 63)) := (Ext.refl w).alloc _
 have HO := two_alloc w 63 (I a) (I b)
 have c0 : (w.alloc (.cells #[I a, I b] 63)).cell? ⟨w.heap.size, 0, none⟩ = some (I a) := HO.cell (j := 0) (by simp)
 have c1 : (w.alloc (.cells #[I a, I b] 63)).cell? ⟨w.heap.size, 1, none⟩ = some (I b) := HO.cell (j := 1) (by simp)
 clear HO
 cases f1
 all_goals cases f2
 all_goals
  go_enter Tryz.func128, Tryz.ntmps128
  go_wp2_with fail
  refine (l1.out _).mono ?_
  rintro e w1 ⟨rfl, hE1⟩
  replace c0 := hE1.cell c0
  replace c1 := hE1.cell c1
  go_wp2_with fail
  refine (l2.out _).mono ?_
  rintro e w2 ⟨rfl, hE2⟩
  have hE := (hX.trans hE1).trans hE2
  go_wp2_with fail
  go_ret3
  exact ⟨rfl, hE⟩
set_option maxHeartbeats 1000000 in
theorem fof_any {n d : Int} (hn : -9000000000000000000 ≤ n ∧ n ≤ 9000000000000000000) (hd : 0 < d ∧ d ≤ 9000000000000000000) {w : World} (hL : Laid w) :
  Calls Tryz.prog 129 #[.int .i64 n, .int .i64 d] w fun e w' => e = .returned (.agg #[I (qn n d), I (qd n d)]) ∧ Ext w w' := by
 have HL := Lib.hid hL
 obtain ⟨g, hg⟩ : ∃ g, g = qg n d := ⟨_, rfl⟩
 have Hg := Lib.hid hg
 have hg0 : 0 < g := by rw [hg]; exact Nat.gcd_pos_of_pos_right _ (by omega)
 have hgd : g ≤ d.natAbs := by rw [hg]; exact Nat.gcd_le_right _ (by omega)
 have hgn : (g : Int) ∣ n := by rw [hg]; exact Int.ofNat_dvd_left.2 (Nat.gcd_dvd_left _ _)
 have hgdv : (g : Int) ∣ d := by rw [hg]; exact Int.ofNat_dvd_left.2 (Nat.gcd_dvd_right _ _)
 have e1 : Int.tdiv n g = qn n d := by unfold qn; rw [← hg, if_neg (by omega), Int.tdiv_eq_ediv_of_dvd hgn]
 have e2 : Int.tdiv d g = qd n d := by unfold qd; rw [← hg, Int.tdiv_eq_ediv_of_dvd hgdv, show (d.natAbs : Int) = d by omega]
 have b1 : -9000000000000000000 ≤ qn n d ∧ qn n d ≤ 9000000000000000000 := by
  rw [← e1]
  have := Int.natAbs_tdiv_le_natAbs n g
  omega
 have b2 : -9000000000000000000 ≤ qd n d ∧ qd n d ≤ 9000000000000000000 := by
  rw [← e2]
  have := Int.natAbs_tdiv_le_natAbs d g
  omega
 generalize qn n d = p at *
 generalize qd n d = q at *
 have hi1 := Lib.hid (fun w hL => Itoa_any (n := p) (w := w) (by omega) (by omega) hL)
 have hi2 := Lib.hid (fun w hL => Itoa_any (n := q) (w := w) (by omega) (by omega) hL)
 have hwp : IntKind.i64.wrap p = p := IntWalk.i64_in _ (by omega)
 have hwq : IntKind.i64.wrap q = q := IntWalk.i64_in _ (by omega)
 have hgz : ((g : Int) == 0) = false := beq_eq_false_iff_ne.2 (by omega)
 have hgz2 : ¬ g = 0 := by omega
 have Hgd := Lib.hid hgd
 have Hg0 := Lib.hid hg0
 have HO := Lib.hid (two_alloc w 63 (.string ⟨#[]⟩) (.string ⟨#[]⟩))
 have hX : Ext w (w.alloc (.cells #[.string ⟨#[]⟩, .string ⟨#[]⟩] 63)) := (Ext.refl w).alloc _
 clear hg hgn hgdv hL b1 b2 hgd hg0
 go_enter Tryz.func129, Tryz.ntmps129
 go_wp2_with fail
 generalize (w.alloc (.cells #[.string ⟨#[]⟩, .string ⟨#[]⟩] 63)) = X at *
 go_loopg [5, 6] d.natAbs (fun k av bv wr => ∃ (x y : Int), av = .int .i64 x ∧ bv = .int .i64 y ∧ k = y.natAbs ∧ (-9000000000000000000 ≤ x ∧ x ≤ 9000000000000000000) ∧ (-9000000000000000000 ≤ y ∧ y ≤ 9000000000000000000) ∧ Hid (qg x y = g) ∧ Ext X wr)
 case atStart => exact ⟨n, d, rfl, rfl, rfl, hn, by omega, Lib.hid Hg.out.symm, Ext.refl _⟩
 case round =>
  obtain ⟨x, y, rfl, rfl, rfl, hx, hy, HK, hE⟩ := hrel
  generalize wr = V at *
  by_cases hz : y = 0
  ·subst hz
   have hxg := Lib.hid (show x.natAbs = g by have := HK.out; unfold qg at this; simpa using this)
   by_cases hx0 : x < 0
   ·have hwx : IntKind.i64.wrap (-x) = (g : Int) := by rw [IntWalk.i64_in _ (by omega)]; have := hxg.out; omega
    go_wp2_with fail
    have d7 : Ext V V.drew := (Ext.refl V).drew
    refine wp_region_held_tail (S := fun W => Ext V W) 8 (by kernel_rfl) (by simp) ?_
    intro inv
    refine wpAnyLH_take (i := 0) (v := .int .i64 n) rfl (by kernel_rfl) (fun _ _ _ h => h) (.inl ⟨by rfl, fun W hW => by go_simp⟩) d7 inv ?_
    intro inv
    go_simp
    refine wpAnyLH_take (i := 1) (v := .int .i64 g) rfl (by kernel_rfl) (fun _ _ _ h => h) (.inl ⟨by rfl, fun W hW => by go_simp⟩) d7 inv ?_
    intro inv
    go_simp
    refine wpAnyLH_take (i := 2) (v := .int .i64 p) rfl (by kernel_rfl) (fun _ _ _ h => h) (.inl ⟨by rfl, fun W hW => by go_simp⟩) d7 inv ?_
    intro inv
    go_simp
    refine wpAnyLH_take (i := 4) (v := .int .i64 d) rfl (by kernel_rfl) (fun _ _ _ h => h) (.inl ⟨by rfl, fun W hW => by go_simp⟩) d7 inv ?_
    intro inv
    go_simp
    refine wpAnyLH_take (i := 5) (v := .int .i64 g) rfl (by kernel_rfl) (fun _ _ _ h => h) (.inl ⟨by rfl, fun W hW => by go_simp⟩) d7 inv ?_
    intro inv
    go_simp
    refine wpAnyLH_take (i := 6) (v := .int .i64 q) rfl (by kernel_rfl) (fun _ _ _ h => h) (.inl ⟨by rfl, fun W hW => by go_simp⟩) d7 inv ?_
    intro inv
    go_simp
    refine wpAnyLH_one (i := 3) rfl (by kernel_rfl) (fun K0 hK0 => ?_)
    go_simp
    refine (hi1.out _ (HL.out.ext ((hX.trans hE).trans d7))).mono ?_
    rintro e w1 ⟨rfl, hE1⟩
    have d1 := d7.trans hE1
    refine hK0 _ _ d1 ?_
    clear hK0
    refine wpAnyLH_one (i := 7) rfl (by kernel_rfl) (fun K1 hK1 => ?_)
    go_simp
    refine (hi2.out _ (HL.out.ext ((hX.trans hE).trans d1))).mono ?_
    rintro e w2 ⟨rfl, hE2⟩
    have d2 := d1.trans hE2
    refine hK1 _ _ d2 ?_
    clear hK1
    refine wpAnyLH_end (by kernel_rfl) ?_
    have hE9 := (hX.trans hE).trans d2
    obtain ⟨q0, q1, f0, f1, r0, r1, hF⟩ := two_end hE9 (Nat.le_refl _) (HO.out.ext (hE.trans d2)) (I p) (I q)
    have Hres := Lib.hid (show RetF w (.agg #[I p, I q]) (.returned (.agg #[I p, I q])) _ from ⟨rfl, hF.out⟩)
    go_wp2_with fail
    refine bodyPost_ret (v := .agg #[I p, I q]) (by simp [results, Tryz.results129, go_sem, r0, r1]) rfl Hres.out
   ·have hxe : x = (g : Int) := by have := hxg.out; omega
    subst hxe
    go_wp2_with fail
    have d7 : Ext V V.drew := (Ext.refl V).drew
    refine wp_region_held_tail (S := fun W => Ext V W) 8 (by kernel_rfl) (by simp) ?_
    intro inv
    refine wpAnyLH_take (i := 0) (v := .int .i64 n) rfl (by kernel_rfl) (fun _ _ _ h => h) (.inl ⟨by rfl, fun W hW => by go_simp⟩) d7 inv ?_
    intro inv
    go_simp
    refine wpAnyLH_take (i := 1) (v := .int .i64 g) rfl (by kernel_rfl) (fun _ _ _ h => h) (.inl ⟨by rfl, fun W hW => by go_simp⟩) d7 inv ?_
    intro inv
    go_simp
    refine wpAnyLH_take (i := 2) (v := .int .i64 p) rfl (by kernel_rfl) (fun _ _ _ h => h) (.inl ⟨by rfl, fun W hW => by go_simp⟩) d7 inv ?_
    intro inv
    go_simp
    refine wpAnyLH_take (i := 4) (v := .int .i64 d) rfl (by kernel_rfl) (fun _ _ _ h => h) (.inl ⟨by rfl, fun W hW => by go_simp⟩) d7 inv ?_
    intro inv
    go_simp
    refine wpAnyLH_take (i := 5) (v := .int .i64 g) rfl (by kernel_rfl) (fun _ _ _ h => h) (.inl ⟨by rfl, fun W hW => by go_simp⟩) d7 inv ?_
    intro inv
    go_simp
    refine wpAnyLH_take (i := 6) (v := .int .i64 q) rfl (by kernel_rfl) (fun _ _ _ h => h) (.inl ⟨by rfl, fun W hW => by go_simp⟩) d7 inv ?_
    intro inv
    go_simp
    refine wpAnyLH_one (i := 3) rfl (by kernel_rfl) (fun K0 hK0 => ?_)
    go_simp
    refine (hi1.out _ (HL.out.ext ((hX.trans hE).trans d7))).mono ?_
    rintro e w1 ⟨rfl, hE1⟩
    have d1 := d7.trans hE1
    refine hK0 _ _ d1 ?_
    clear hK0
    refine wpAnyLH_one (i := 7) rfl (by kernel_rfl) (fun K1 hK1 => ?_)
    go_simp
    refine (hi2.out _ (HL.out.ext ((hX.trans hE).trans d1))).mono ?_
    rintro e w2 ⟨rfl, hE2⟩
    have d2 := d1.trans hE2
    refine hK1 _ _ d2 ?_
    clear hK1
    refine wpAnyLH_end (by kernel_rfl) ?_
    have hE9 := (hX.trans hE).trans d2
    obtain ⟨q0, q1, f0, f1, r0, r1, hF⟩ := two_end hE9 (Nat.le_refl _) (HO.out.ext (hE.trans d2)) (I p) (I q)
    have Hres := Lib.hid (show RetF w (.agg #[I p, I q]) (.returned (.agg #[I p, I q])) _ from ⟨rfl, hF.out⟩)
    go_wp2_with fail
    refine bodyPost_ret (v := .agg #[I p, I q]) (by simp [results, Tryz.results129, go_sem, r0, r1]) rfl Hres.out
  ·have hzi : (y == 0) = false := beq_eq_false_iff_ne.2 hz
   have hr0 := Int.natAbs_tmod x y
   have Hm := Nat.mod_lt x.natAbs (show 0 < y.natAbs by omega)
   have HK2 := Lib.hid (show qg y (Int.tmod x y) = g by rw [← HK.out]; unfold qg; rw [hr0, Nat.gcd_comm y.natAbs, ← Nat.gcd_rec, Nat.gcd_comm])
   obtain ⟨r, hr⟩ : ∃ r, Int.tmod x y = r := ⟨_, rfl⟩
   rw [hr] at HK2 hr0
   rw [← hr0] at Hm
   have hwr : IntKind.i64.wrap r = r := IntWalk.i64_in _ (by omega)
   clear hz HK hr0
   go_wp2_with fail
   go_quiet (fail)
   go_wp2_with fail
   go_roundg r.natAbs
   case measure => exact Hm
   case rel => exact ⟨y, r, rfl, rfl, rfl, hy, by omega, HK2, hE.drewN _⟩
theorem nd_le {a b : Int} (h : a.natAbs ≤ b.natAbs) : nd a ≤ nd b := nDigits_mono h
theorem qg_pos {n d : Int} (h : d ≠ 0) : 0 < qg n d := Nat.gcd_pos_of_pos_right _ (by omega)
theorem qg_le {n d : Int} (h : d ≠ 0) : qg n d ≤ d.natAbs := Nat.gcd_le_right _ (by omega)
set_option maxHeartbeats 1000000 in
theorem flowest_any {n d : Int} (hn : nd n < LIM) (hd : nd d < LIM) (h0 : d ≠ 0) {w : World} (hL : Laid w) :
  Calls Tryz.prog 130 #[I n, I d] w fun e w' => e = .returned (.agg #[I (qn n d), I (qd n d)]) ∧ Ext w w' := by
 have HL := Lib.hid hL
 obtain ⟨n', hn'⟩ : ∃ n', n' = if d < 0 then -n else n := ⟨_, rfl⟩
 obtain ⟨d', hd'⟩ : ∃ d', d' = (d.natAbs : Int) := ⟨_, rfl⟩
 obtain ⟨g, hg⟩ : ∃ g, g = qg n d := ⟨_, rfl⟩
 have Hg := Lib.hid hg
 have hg0 : 0 < g := by rw [hg]; exact qg_pos h0
 have hgl : g ≤ d.natAbs := by rw [hg]; exact qg_le h0
 have e1 : qn n d = n' / (g : Int) := by unfold qn; rw [← hg, ← hn']
 have e2 : qd n d = d' / (g : Int) := by unfold qd; rw [← hg, ← hd']
 have hnn : nd n' < LIM := by rw [hn']; split; (rw [nd_neg]; exact hn); exact hn
 have hdd : nd d' < LIM := by rw [hd']; show Lib.nDigits _ < _; rw [Int.natAbs_natCast]; exact hd
 have hgn : nd (g : Int) < LIM := Nat.lt_of_le_of_lt (nd_le (by rw [Int.natAbs_natCast]; exact hgl)) hd
 have hgc : Nat.gcd n'.natAbs d'.natAbs = g := by
  rw [hg, hn', hd', Int.natAbs_natCast]; unfold qg
  split
  ·rw [Int.natAbs_neg]
  ·rfl
 have hs := Lib.hid (Sign_any d)
 have hN1 := Lib.hid (Neg_any (z := n) (Nat.le_of_lt hn))
 have hN2 := Lib.hid (Neg_any (z := d) (Nat.le_of_lt hd))
 have hG := Lib.hid (fun w hL => wGcd_any (a := n') (b := d') (w := w) hnn hdd hL)
 rw [hgc] at hG
 have hD1 := Lib.hid (fun w hL => DivMod_any (a := n') (b := (g : Int)) (w := w) hnn hgn (by omega) hL)
 have hD2 := Lib.hid (fun w hL => DivMod_any (a := d') (b := (g : Int)) (w := w) hdd hgn (by omega) hL)
 rw [Int.fdiv_eq_ediv_of_nonneg _ (by omega), ← e1] at hD1
 rw [Int.fdiv_eq_ediv_of_nonneg _ (by omega), ← e2] at hD2
 have h1 := itoa_eq_1 (g : Int)
 have E1 := Lib.hid (show g = 1 → qn n d = n' ∧ qd n d = d' from fun h => by rw [e1, e2, h]; exact ⟨Int.ediv_one _, Int.ediv_one _⟩)
 clear e1 e2
 generalize qn n d = x at *
 generalize qd n d = y at *
 generalize n'.fmod g = r1 at *
 generalize d'.fmod g = r2 at *
 have HO := Lib.hid (two_alloc w 63 (.string ⟨#[]⟩) (.string ⟨#[]⟩))
 have hX : Ext w (w.alloc (.cells #[.string ⟨#[]⟩, .string ⟨#[]⟩] 63)) := (Ext.refl w).alloc _
 have Hd' := Lib.hid hd'
 have Hn' := Lib.hid hn'
 clear hg hgl hL hn hd hnn hdd hgn hgc hn' hd' hg0
 by_cases hneg : d < 0
 ·have hsg : d.sign = -1 := Int.sign_eq_neg_one_of_neg hneg
  have en : -n = n' := by rw [Hn'.out, if_pos hneg]
  have ed : -d = d' := by rw [Hd'.out]; omega
  rw [hsg] at hs
  rw [en] at hN1
  rw [ed] at hN2
  clear hsg hneg en ed h0
  by_cases hg1 : g = 1
  ·rw [decide_eq_true (by omega)] at h1
   obtain ⟨rfl, rfl⟩ := E1.out hg1
   clear hg1 E1
   go_enter Tryz.func130, Tryz.ntmps130
   go_wp2_with fail
   refine (hs.out _).mono ?_
   rintro e w1 ⟨rfl, hE1⟩
   replace HO := Lib.hid (HO.out.ext hE1)
   replace hX := hX.trans hE1
   clear hE1
   go_wp2_with fail
   refine (hN1.out _).mono ?_
   rintro e w1 ⟨rfl, hE1⟩
   replace HO := Lib.hid (HO.out.ext hE1)
   replace hX := hX.trans hE1
   clear hE1
   go_wp2_with fail
   refine (hN2.out _).mono ?_
   rintro e w1 ⟨rfl, hE1⟩
   replace HO := Lib.hid (HO.out.ext hE1)
   replace hX := hX.trans hE1
   clear hE1
   go_wp2_with fail
   refine (hG.out _ (HL.out.ext hX)).mono ?_
   rintro e w1 ⟨rfl, hE1⟩
   replace HO := Lib.hid (HO.out.ext hE1)
   replace hX := hX.trans hE1
   clear hE1
   obtain ⟨q0, q1, f0, f1, r0, r1, hF⟩ := two_end hX (Nat.le_refl _) HO.out (I x) (I y)
   have Hres := Lib.hid (show RetF w (.agg #[I x, I y]) (.returned (.agg #[I x, I y])) _ from ⟨rfl, hF.out⟩)
   go_wp2_with fail
   refine bodyPost_ret (v := .agg #[I x, I y]) (by simp [results, Tryz.results130, go_sem, r0, r1]) rfl Hres.out
  ·rw [decide_eq_false (by omega)] at h1
   clear hg1 E1
   go_enter Tryz.func130, Tryz.ntmps130
   go_wp2_with fail
   refine (hs.out _).mono ?_
   rintro e w1 ⟨rfl, hE1⟩
   replace HO := Lib.hid (HO.out.ext hE1)
   replace hX := hX.trans hE1
   clear hE1
   go_wp2_with fail
   refine (hN1.out _).mono ?_
   rintro e w1 ⟨rfl, hE1⟩
   replace HO := Lib.hid (HO.out.ext hE1)
   replace hX := hX.trans hE1
   clear hE1
   go_wp2_with fail
   refine (hN2.out _).mono ?_
   rintro e w1 ⟨rfl, hE1⟩
   replace HO := Lib.hid (HO.out.ext hE1)
   replace hX := hX.trans hE1
   clear hE1
   go_wp2_with fail
   refine (hG.out _ (HL.out.ext hX)).mono ?_
   rintro e w1 ⟨rfl, hE1⟩
   replace HO := Lib.hid (HO.out.ext hE1)
   replace hX := hX.trans hE1
   clear hE1
   go_wp2_with fail
   refine (hD1.out _ (HL.out.ext hX)).mono ?_
   rintro e w1 ⟨rfl, hE1⟩
   replace HO := Lib.hid (HO.out.ext hE1)
   replace hX := hX.trans hE1
   clear hE1
   go_wp2_with fail
   refine (hD2.out _ (HL.out.ext hX)).mono ?_
   rintro e w1 ⟨rfl, hE1⟩
   replace HO := Lib.hid (HO.out.ext hE1)
   replace hX := hX.trans hE1
   clear hE1
   obtain ⟨q0, q1, f0, f1, r0, r1, hF⟩ := two_end hX (Nat.le_refl _) HO.out (I x) (I y)
   have Hres := Lib.hid (show RetF w (.agg #[I x, I y]) (.returned (.agg #[I x, I y])) _ from ⟨rfl, hF.out⟩)
   go_wp2_with fail
   refine bodyPost_ret (v := .agg #[I x, I y]) (by simp [results, Tryz.results130, go_sem, r0, r1]) rfl Hres.out
 ·have hsg : d.sign = 1 := Int.sign_eq_one_of_pos (by omega)
  have en : n = n' := by rw [Hn'.out, if_neg hneg]
  have ed : d = d' := by rw [Hd'.out]; omega
  rw [hsg] at hs
  clear Hn' Hd' h0
  subst en
  subst ed
  clear hsg hneg hN1 hN2
  by_cases hg1 : g = 1
  ·rw [decide_eq_true (by omega)] at h1
   obtain ⟨rfl, rfl⟩ := E1.out hg1
   clear hg1 E1
   go_enter Tryz.func130, Tryz.ntmps130
   go_wp2_with fail
   refine (hs.out _).mono ?_
   rintro e w1 ⟨rfl, hE1⟩
   replace HO := Lib.hid (HO.out.ext hE1)
   replace hX := hX.trans hE1
   clear hE1
   go_wp2_with fail
   refine (hG.out _ (HL.out.ext hX)).mono ?_
   rintro e w1 ⟨rfl, hE1⟩
   replace HO := Lib.hid (HO.out.ext hE1)
   replace hX := hX.trans hE1
   clear hE1
   obtain ⟨q0, q1, f0, f1, r0, r1, hF⟩ := two_end hX (Nat.le_refl _) HO.out (I x) (I y)
   have Hres := Lib.hid (show RetF w (.agg #[I x, I y]) (.returned (.agg #[I x, I y])) _ from ⟨rfl, hF.out⟩)
   go_wp2_with fail
   refine bodyPost_ret (v := .agg #[I x, I y]) (by simp [results, Tryz.results130, go_sem, r0, r1]) rfl Hres.out
  ·rw [decide_eq_false (by omega)] at h1
   clear hg1 E1
   go_enter Tryz.func130, Tryz.ntmps130
   go_wp2_with fail
   refine (hs.out _).mono ?_
   rintro e w1 ⟨rfl, hE1⟩
   replace HO := Lib.hid (HO.out.ext hE1)
   replace hX := hX.trans hE1
   clear hE1
   go_wp2_with fail
   refine (hG.out _ (HL.out.ext hX)).mono ?_
   rintro e w1 ⟨rfl, hE1⟩
   replace HO := Lib.hid (HO.out.ext hE1)
   replace hX := hX.trans hE1
   clear hE1
   go_wp2_with fail
   refine (hD1.out _ (HL.out.ext hX)).mono ?_
   rintro e w1 ⟨rfl, hE1⟩
   replace HO := Lib.hid (HO.out.ext hE1)
   replace hX := hX.trans hE1
   clear hE1
   go_wp2_with fail
   refine (hD2.out _ (HL.out.ext hX)).mono ?_
   rintro e w1 ⟨rfl, hE1⟩
   replace HO := Lib.hid (HO.out.ext hE1)
   replace hX := hX.trans hE1
   clear hE1
   obtain ⟨q0, q1, f0, f1, r0, r1, hF⟩ := two_end hX (Nat.le_refl _) HO.out (I x) (I y)
   have Hres := Lib.hid (show RetF w (.agg #[I x, I y]) (.returned (.agg #[I x, I y])) _ from ⟨rfl, hF.out⟩)
   go_wp2_with fail
   refine bodyPost_ret (v := .agg #[I x, I y]) (by simp [results, Tryz.results130, go_sem, r0, r1]) rfl Hres.out
theorem fNew_any {n d : Int} (hn : nd n < LIM) (hd : nd d < LIM) (h0 : d ≠ 0) {w : World} (hL : Laid w) :
  Calls Tryz.prog 131 #[I n, I d] w fun e w' => e = .returned (.tuple #[.agg #[I (qn n d), I (qd n d)], .int .i64 0]) ∧ Ext w w' := by
 have HL := Lib.hid hL
 have hs := Lib.hid (Sign_any d)
 have hl := Lib.hid (fun w hL => flowest_any (w := w) hn hd h0 hL)
 have hsg : (d.sign == 0) = false := beq_eq_false_iff_ne.2 (fun h => h0 (Int.sign_eq_zero_iff_zero.1 h))
 generalize d.sign = sg at *
 generalize qn n d = x at *
 generalize qd n d = y at *
 have HO := Lib.hid (two_alloc w 63 (.string ⟨#[]⟩) (.string ⟨#[]⟩))
 have hX : Ext w (w.alloc (.cells #[.string ⟨#[]⟩, .string ⟨#[]⟩] 63)) := (Ext.refl w).alloc _
 clear hn hd h0 hL
 go_enter Tryz.func131, Tryz.ntmps131
 go_wp2_with fail
 refine (hs.out _).mono ?_
 rintro e w1 ⟨rfl, hE1⟩
 replace HO := Lib.hid (HO.out.ext hE1)
 replace hX := hX.trans hE1
 go_wp2_with fail
 refine (hl.out _ (HL.out.ext hX)).mono ?_
 rintro e w2 ⟨rfl, hE2⟩
 replace HO := Lib.hid (HO.out.ext hE2)
 replace hX := hX.trans hE2
 obtain ⟨q0, q1, f0, f1, r0, r1, hF⟩ := two_end hX (Nat.le_refl _) HO.out (I x) (I y)
 have Hres := Lib.hid (show RetF w (.tuple #[.agg #[I x, I y], .int .i64 0]) (.returned (.tuple #[.agg #[I x, I y], .int .i64 0])) _ from ⟨rfl, hF.out⟩)
 go_wp2_with fail
 refine bodyPost_ret (v := .tuple #[.agg #[I x, I y], .int .i64 0]) (by simp [results, Tryz.results131, go_sem, r0, r1]) rfl Hres.out
theorem fOf_any {n d : Int} (hn : -9223372036854775808 ≤ n ∧ n ≤ 9223372036854775807) (hd : -9223372036854775808 ≤ d ∧ d ≤ 9223372036854775807) (h0 : d ≠ 0) {w : World} (hL : Laid w) :
  Calls Tryz.prog 76 #[.int .i64 n, .int .i64 d] w fun e w' => e = .returned (.tuple #[.agg #[I (qn n d), I (qd n d)], .int .i64 0]) ∧ Ext w w' := by
 have HL := Lib.hid hL
 have h1 := Lib.hid (fun w hL => wholeOf_any (w := w) hn.1 hn.2 hL)
 have h2 := Lib.hid (fun w hL => wholeOf_any (w := w) hd.1 hd.2 hL)
 have hl := Lib.hid (fun w hL => fNew_any (n := n) (d := d) (w := w) (by have := nDigits_le (u := n.natAbs) (k := 20) (by omega) (by omega); show Lib.nDigits _ < LIM; unfold LIM; omega) (by have := nDigits_le (u := d.natAbs) (k := 20) (by omega) (by omega); show Lib.nDigits _ < LIM; unfold LIM; omega) h0 hL)
 generalize qn n d = x at *
 generalize qd n d = y at *
 have HO := Lib.hid (two_alloc w 63 (.string ⟨#[]⟩) (.string ⟨#[]⟩))
 have hX : Ext w (w.alloc (.cells #[.string ⟨#[]⟩, .string ⟨#[]⟩] 63)) := (Ext.refl w).alloc _
 clear hn hd h0 hL
 go_enter Tryz.func76, Tryz.ntmps76
 go_wp2_with fail
 refine (h1.out _ (HL.out.ext hX)).mono ?_
 rintro e w1 ⟨rfl, hE1⟩
 replace HO := Lib.hid (HO.out.ext hE1)
 replace hX := hX.trans hE1
 go_wp2_with fail
 refine (h2.out _ (HL.out.ext hX)).mono ?_
 rintro e w2 ⟨rfl, hE2⟩
 replace HO := Lib.hid (HO.out.ext hE2)
 replace hX := hX.trans hE2
 go_wp2_with fail
 refine (hl.out _ (HL.out.ext hX)).mono ?_
 rintro e w3 ⟨rfl, hE3⟩
 replace HO := Lib.hid (HO.out.ext hE3)
 replace hX := hX.trans hE3
 obtain ⟨q0, q1, f0, f1, r0, r1, hF⟩ := two_end hX (Nat.le_refl _) HO.out (I x) (I y)
 have Hres := Lib.hid (show RetF w (.tuple #[.agg #[I x, I y], .int .i64 0]) (.returned (.tuple #[.agg #[I x, I y], .int .i64 0])) _ from ⟨rfl, hF.out⟩)
 go_wp2_with fail
 refine bodyPost_ret (v := .tuple #[.agg #[I x, I y], .int .i64 0]) (by simp [results, Tryz.results76, go_sem, r0, r1]) rfl Hres.out
end Go.Proofs.YtedlgnoiojcjaaaGreatDoor
