/- Part 3, beside the shared parts, of the proof of the claim: contracts and plain laws; no condition. -/
import Derived.Test.YtkjnjmihfonilaaGreatDoorV01
import Derived.Test.YtkjnjmihfonilaaGreatDoorV02
import Derived.Test.YtkjnjmihfonilaaGreatDoorV03
import Derived.Test.YtkjnjmihfonilaaGreatDoorV04
import Derived.Test.YtkjnjmihfonilaaGreatDoorV05
import Derived.Test.YtkjnjmihfonilaaGreatDoorV06
import Derived.Test.YtkjnjmihfonilaaGreatDoorV07
import Derived.Test.YtkjnjmihfonilaaGreatDoorV08
import Derived.Test.YtkjnjmihfonilaaGreatDoorV09
import Derived.Test.YtkjnjmihfonilaaGreatDoorV10
import Derived.Test.YtkjnjmihfonilaaGreatDoorV11
import Derived.Test.YtkjnjmihfonilaaGreatDoorV12
import Derived.Test.YtkjnjmihfonilaaGreatDoorV13
import Derived.Test.YtkjnjmihfonilaaGreatDoorV14
import Derived.Test.YtkjnjmihfonilaaGreatDoorV15
import Derived.Test.YtkjnjmihfonilaaGreatDoorV16
import Derived.Test.YtkjnjmihfonilaaGreatDoorV17
import Derived.Test.YtkjnjmihfonilaaGreatDoorV18
import Derived.Test.YtkjnjmihfonilaaGreatDoorV19
import Derived.Test.YtkjnjmihfonilaaGreatDoorV20
import Derived.Test.YtkjnjmihfonilaaGreatDoorV21
import Derived.Test.YtkjnjmihfonilaaGreatDoorV22
import Derived.Test.YtkjnjmihfonilaaGreatDoorV23
import Derived.Test.YtkjnjmihfonilaaGreatDoorV24
import Derived.Test.YtkjnjmihfonilaaGreatDoorV25
import Derived.Test.YtkjnjmihfonilaaGreatDoorV26
import Derived.Test.YtkjnjmihfonilaaGreatDoorV27
import Derived.Test.YtkjnjmihfonilaaGreatDoorV28
import Derived.Test.YtkjnjmihfonilaaGreatDoorV29
import Derived.Test.YtkjnjmihfonilaaGreatDoorV30
import Derived.Test.YtkjnjmihfonilaaGreatDoorZ01
import Derived.Test.YtkjnjmihfonilaaGreatDoorZ02
import Derived.BigQuiet
namespace Go.Proofs.YtkjnjmihfonilaaGreatDoor
open Go.RowKit Go.Sort
theorem badRow_mono {A : Mx} {t i k : Nat} (h : badRow A t i k = true) : ∀ m, badRow A t i (k + m) = true
  | 0 => h
  | m + 1 => by rw [← Nat.add_assoc, badRow, badRow_mono h m]; rfl
theorem spoil_mono {A : Mx} {t w j x : Nat} (h : spoil A t w j = some x) : ∀ m, spoil A t w (j + m) = some x
  | 0 => h
  | m + 1 => by rw [← Nat.add_assoc, spoil, spoil_mono h m]
theorem spoil_at {A : Mx} {t w j N k : Nat} (h : spoil A t w j = none) (hk : k ≤ w) (hb : badRow A t (t + 1 + j) k = true) (hj : j < N) : spoil A t w N = some (t + 1 + j) := by
  have h1 : badRow A t (t + 1 + j) w = true := by have := badRow_mono hb (w - k); rwa [show k + (w - k) = w by omega] at this
  have h2 : spoil A t w (j + 1) = some (t + 1 + j) := by rw [spoil, h]; simp [h1]
  have := spoil_mono h2 (N - (j + 1))
  rwa [show j + 1 + (N - (j + 1)) = N by omega] at this
def spI (b : Option Nat) : Nat := match b with | none => 0 | some i => i
def spB (b : Option Nat) : Bool := match b with | none => false | some _ => true
set_option maxRecDepth 100000 in
set_option maxHeartbeats 4000000 in
theorem spoiler_w {B : Nat} {w : World} {n c E : Nat} {x : Wa} {aa al ar : List (Nat × Nat)} {s : Dg} {t : Nat} (h : WkR B w n c x aa al ar s) (htn : t < n) (htc : t < c) (hn2 : n ≤ 1000000) (hc2 : c ≤ 1000000) (hA : BM E s.a) (hp : eM s.a t t ≠ 0) (hE : 2 * E + 2 < LIM) (hL : Laid w) :
    Calls Tryz.prog 177 #[.pointer (some ⟨x.p, 0, none⟩), .int .i64 t] w fun e w' =>
      e = .returned (.tuple #[.int .i64 (spI (spoil s.a t (c - (t + 1)) (n - (t + 1))) : Nat), .bool (spB (spoil s.a t (c - (t + 1)) (n - (t + 1))))]) ∧ Ext w w' := by
  obtain ⟨p, ga, ca, gl, cl, gr, cr⟩ := x
  have hcA := h.c0
  have hc3 := h.c3
  simp only at hcA hc3
  have HW := Lib.hid h
  have HA := Lib.hid hA
  have Hp := Lib.hid hp
  have HE := Lib.hid hE
  have HL := Lib.hid hL
  have hc0 : 0 < c := by omega
  obtain ⟨N, hN⟩ : ∃ N, N = n - (t + 1) := ⟨_, rfl⟩
  obtain ⟨C, hC⟩ : ∃ C, C = c - (t + 1) := ⟨_, rfl⟩
  have hNn : t + 1 + N = n := by omega
  have hCc : t + 1 + C = c := by omega
  have htI : (t : Int) < (n : Int) := by omega
  have htcI : (t : Int) < (c : Int) := by omega
  rw [← hN, ← hC]
  obtain ⟨R, hR⟩ : ∃ R, R = spoil s.a t C N := ⟨_, rfl⟩
  rw [← hR]
  have HR := Lib.hid hR
  clear h hA hp hE hL hN hC hR
  go_enter Tryz.func177, Tryz.ntmps177
  go_wp2_with fail
  go_loopw [6] (fun idx wr => ∃ j : Nat, j ≤ N ∧ idx = .int .i64 ((t + 1 + j : Nat) : Int) ∧ Hid (spoil s.a t C j = none) ∧ Ext w wr) (fun idx _ => n - (intOf idx).toNat)
  case atStart => exact ⟨0, by omega, by simp, Lib.hid rfl, Ext.refl _⟩
  case round =>
    obtain ⟨j, hj, rfl, hS, hE1⟩ := hrel
    generalize wr = V at *
    obtain ⟨i, hi⟩ : ∃ i, i = t + 1 + j := ⟨_, rfl⟩
    rw [← hi]
    have hcV := hE1.cell hcA
    have hc3V := hE1.cell hc3
    by_cases hjl : j < N
    · have hin : i < n := by omega
      have hiI : (i : Int) < (n : Int) := by omega
      have hidx : (Value.int .i64 ((i : Int) + 1)) = .int .i64 ((t + 1 + (j + 1) : Nat) : Int) := by rw [show ((t + 1 + (j + 1) : Nat) : Int) = (i : Int) + 1 by omega]
      have Hidx := Lib.hid hidx
      have Hi := Lib.hid hi
      clear hi hidx
      go_wp2_with fail
      go_loopw [7] (fun idx wr => ∃ k : Nat, k ≤ C ∧ idx = .int .i64 ((t + 1 + k : Nat) : Int) ∧ Hid (badRow s.a t i k = false) ∧ Ext w wr) (fun idx _ => c - (intOf idx).toNat)
      case atStart => exact ⟨0, by omega, by simp, Lib.hid rfl, hE1⟩
      case round =>
        obtain ⟨k, hk, rfl, hB, hE2⟩ := hrel
        generalize wr = Y at *
        obtain ⟨d, hd⟩ : ∃ d, d = t + 1 + k := ⟨_, rfl⟩
        rw [← hd]
        have hcY := hE2.cell hcA
        have hc3Y := hE2.cell hc3
        by_cases hkl : k < C
        · have hdc : d < c := by omega
          have hdI : (d : Int) < (c : Int) := by omega
          obtain ⟨gx, cx, _, _, h1, _, _, hel1⟩ := (HW.out.a.ext hE2).atM HW.out.ra hc0 (by rw [HW.out.la]; exact hin : i < _)
          obtain ⟨gt, ct, _, _, h2, _, _, hel2⟩ := (HW.out.a.ext hE2).atM HW.out.ra hc0 (by rw [HW.out.la]; exact htn : t < _)
          have e1 := hel1 d hdc
          have e2 := hel2 t htc
          simp only at h1 h2
          obtain ⟨z, hz⟩ : ∃ z, z = eM s.a i d := ⟨_, rfl⟩
          obtain ⟨y, hy⟩ : ∃ y, y = eM s.a t t := ⟨_, rfl⟩
          rw [← hz] at e1
          rw [← hy] at e2
          have hzb : z.natAbs < 2 ^ E := by rw [hz]; exact HA.out.el i d
          have hyb : y.natAbs < 2 ^ E := by rw [hy]; exact HA.out.el t t
          have hy0 : y ≠ 0 := by rw [hy]; exact Hp.out
          have Hzl : Hid (nd z < LIM) := by have := nd_lt2 hzb; have := HE.out; exact Lib.hid (by omega)
          have Hyl : Hid (nd y < LIM) := by have := nd_lt2 hyb; have := HE.out; exact Lib.hid (by omega)
          have Hy0 := Lib.hid hy0
          have Hbs := Lib.hid (show badRow s.a t i (k + 1) = decide (z.fmod y ≠ 0) by rw [badRow, hB.out, hz, hy, hd]; simp)
          have hidx2 : (Value.int .i64 ((d : Int) + 1)) = .int .i64 ((t + 1 + (k + 1) : Nat) : Int) := by rw [show ((t + 1 + (k + 1) : Nat) : Int) = (d : Int) + 1 by omega]
          have Hidx2 := Lib.hid hidx2
          have bD := Lib.hid (quietC (w := Y) (fun W h => DivMod_any (a := z) (b := y) (w := W) Hzl.out Hyl.out Hy0.out (HL.out.ext (hE2.trans h))))
          have hitz : (Lib.itoa (z.fmod y) == [48]) = decide (z.fmod y = 0) := itoa_eq_zero _
          have k1 := cell_regrown hcY
          have k2 := cell_regrown h1
          have k3 := cell_regrown h2
          have k4 := cell_regrown e1
          have k5 := cell_regrown e2
          clear hel1 hel2 hz hy hzb hyb hy0 hidx2 hd
          go_wp2_with fail
          refine wp_region_quiet_below (by kernel_rfl) (by kernel_rfl) ?_
          repeat (go_big_quiet_step (exact bD.out _ _))
          refine wpQuiet_nil ?_
          intro _ hw'
          obtain ⟨⟨dq, osq⟩, hw''⟩ := hw'
          subst hw''
          have hE5 := hE2.trans (ext_regrown Y dq osq)
          clear bD k1 k2 k3 k4 k5
          generalize hW5 : grow (redrawn _ _) _ = W5 at *
          clear hW5
          obtain ⟨q, hq⟩ : ∃ q, q = z.fmod y := ⟨_, rfl⟩
          rw [← hq] at hitz Hbs ⊢
          clear hq
          by_cases hq0 : q = 0
          · rw [decide_eq_true hq0] at hitz
            have hitz2 : (Lib.itoa q != [48]) = false := by simp [bne, hitz]
            have Hb2 := Lib.hid (show badRow s.a t i (k + 1) = false by rw [Hbs.out, hq0]; rfl)
            clear hq0
            go_wp2_with fail
            go_roundw
            case rel => exact ⟨k + 1, by omega, Hidx2.out, Hb2, hE5⟩
            case measure => simp [intOf] <;> omega
          · rw [decide_eq_false hq0] at hitz
            have hitz2 : (Lib.itoa q != [48]) = true := by simp [bne, hitz]
            have Hb2 := Lib.hid (show R = some i by
              rw [HR.out, Hi.out]
              exact spoil_at hS.out (by omega : k + 1 ≤ C) (by rw [← Hi.out, Hbs.out]; exact decide_eq_true hq0) hjl)
            clear hq0
            go_wp2_with fail
            go_ret2
            exact ⟨by rw [Hb2.out]; rfl, hE5⟩
        · have hdI : ¬ (d : Int) < (c : Int) := by omega
          have hkC : k = C := by omega
          clear hd
          subst hkC
          have Hn := Lib.hid (show spoil s.a t k (j + 1) = none by rw [spoil, hS.out]; simp only; rw [← Hi.out, hB.out]; rfl)
          go_wp2_with fail
          go_roundw
          case rel => exact ⟨j + 1, by omega, Hidx.out, Hn, hE2⟩
          case measure => simp [intOf] <;> omega
    · have hiI : ¬ (i : Int) < (n : Int) := by omega
      have hjN : j = N := by omega
      clear hi
      subst hjN
      have Hn := Lib.hid (show R = none by rw [HR.out]; exact hS.out)
      go_wp2_with fail
      go_ret2
      exact ⟨by rw [Hn.out]; rfl, hE1⟩
end Go.Proofs.YtkjnjmihfonilaaGreatDoor
namespace Go.Proofs.YtkjnjmihfonilaaGreatDoor
open Go.RowKit Go.Sort
def InB (A : Mx) (t n c : Nat) (b : Option (Nat × Nat)) : Prop := ∀ p, b = some p → t ≤ p.1 ∧ p.1 < n ∧ t ≤ p.2 ∧ p.2 < c ∧ eM A p.1 p.2 ≠ 0
theorem betB_in {A : Mx} {t n c i k : Nat} {b : Option (Nat × Nat)} (h : InB A t n c b) (h1 : t ≤ i) (h2 : i < n) (h3 : t ≤ k) (h4 : k < c) : InB A t n c (betB A b i k) := by
  intro p hp
  unfold betB at hp
  split at hp
  · exact h p hp
  · rename_i hz
    split at hp
    · injection hp with hp; subst hp; exact ⟨h1, h2, h3, h4, hz⟩
    · split at hp
      · injection hp with hp; subst hp; exact ⟨h1, h2, h3, h4, hz⟩
      · exact h p hp
theorem bestRow_in {A : Mx} {t n c i : Nat} {b : Option (Nat × Nat)} (h : InB A t n c b) (h1 : t ≤ i) (h2 : i < n) : ∀ k, t + k ≤ c → InB A t n c (bestRow A i t b k)
  | 0, _ => h
  | k + 1, hk => by rw [bestRow]; exact betB_in (bestRow_in h h1 h2 k (by omega)) h1 h2 (by omega) (by omega)
theorem bestAll_in {A : Mx} {t n c : Nat} (hc : t ≤ c) : ∀ i, t + i ≤ n → InB A t n c (bestAll A t (c - t) i)
  | 0, _ => fun p hp => by cases hp
  | i + 1, hi => by rw [bestAll]; exact bestRow_in (bestAll_in hc i (by omega)) (by omega) (by omega) _ (by omega)
def lrB (b : Option (Nat × Nat)) : Nat := match b with | none => 0 | some p => p.1
def lcB (b : Option (Nat × Nat)) : Nat := match b with | none => 0 | some p => p.2
def lfB (b : Option (Nat × Nat)) : Bool := match b with | none => false | some _ => true
set_option maxRecDepth 100000 in
set_option maxHeartbeats 4000000 in
theorem least_w {B : Nat} {w : World} {n c E : Nat} {x : Wa} {aa al ar : List (Nat × Nat)} {s : Dg} {t : Nat} (h : WkR B w n c x aa al ar s) (hc : 0 < c) (ht : t ≤ n) (htc : t ≤ c) (hn2 : n ≤ 1000000) (hc2 : c ≤ 1000000) (hA : BM E s.a) (hE : 2 * E + 2 < LIM) :
    Calls Tryz.prog 174 #[.pointer (some ⟨x.p, 0, none⟩), .int .i64 t] w fun e w' =>
      e = .returned (.tuple #[.int .i64 (lrB (bestAll s.a t (c - t) (n - t)) : Nat), .int .i64 (lcB (bestAll s.a t (c - t) (n - t)) : Nat), .bool (lfB (bestAll s.a t (c - t) (n - t)))]) ∧ Ext w w' := by
  obtain ⟨p, ga, ca, gl, cl, gr, cr⟩ := x
  have hcA := h.c0
  have hc3 := h.c3
  simp only at hcA hc3
  have HW := Lib.hid h
  have HA := Lib.hid hA
  have HE := Lib.hid hE
  have Hin := Lib.hid (fun i (hi : t + i ≤ n) => bestAll_in (A := s.a) (n := n) htc i hi)
  obtain ⟨N, hN⟩ : ∃ N, N = n - t := ⟨_, rfl⟩
  obtain ⟨C, hC⟩ : ∃ C, C = c - t := ⟨_, rfl⟩
  rw [← hN, ← hC]
  rw [← hC] at Hin
  have hNn : t + N = n := by omega
  have hCc : t + C = c := by omega
  clear h hA hE hN hC
  go_enter Tryz.func174, Tryz.ntmps174
  go_wp2_with fail
  go_loopw [4, 5, 6, 7] (fun rv cv fv idx wr => ∃ i : Nat, i ≤ N ∧ idx = .int .i64 ((t + i : Nat) : Int) ∧ rv = .int .i64 (lrB (bestAll s.a t C i) : Nat) ∧ cv = .int .i64 (lcB (bestAll s.a t C i) : Nat) ∧ fv = .bool (lfB (bestAll s.a t C i)) ∧ Ext w wr) (fun _ _ _ idx _ => n - (intOf idx).toNat)
  case atStart => exact ⟨0, by omega, by simp, rfl, rfl, rfl, Ext.refl _⟩
  case round =>
    obtain ⟨i, hi, rfl, rfl, rfl, rfl, hE1⟩ := hrel
    generalize wr = V at *
    obtain ⟨a, ha⟩ : ∃ a, a = t + i := ⟨_, rfl⟩
    rw [← ha]
    have hcV := hE1.cell hcA
    have hc3V := hE1.cell hc3
    by_cases hlt : i < N
    · have haI : (a : Int) < (n : Int) := by omega
      have Ha := Lib.hid ha
      have Hb0 := Lib.hid (Hin.out i (by omega))
      obtain ⟨b0, hb0⟩ : ∃ b0, b0 = bestAll s.a t C i := ⟨_, rfl⟩
      have Hnx := Lib.hid (show bestAll s.a t C (i + 1) = bestRow s.a a t b0 C by rw [bestAll, hb0, ha])
      rw [← hb0]
      rw [← hb0] at Hb0
      have hidx : (Value.int .i64 ((a : Int) + 1)) = .int .i64 ((t + (i + 1) : Nat) : Int) := by rw [show ((t + (i + 1) : Nat) : Int) = (a : Int) + 1 by omega]
      have Hidx := Lib.hid hidx
      have han : a < n := by omega
      have hta : t ≤ a := by omega
      clear ha hb0 hidx
      go_wp2_with fail
      go_loopw [4, 5, 6, 8] (fun rv cv fv idx wr => ∃ k : Nat, k ≤ C ∧ idx = .int .i64 ((t + k : Nat) : Int) ∧ rv = .int .i64 (lrB (bestRow s.a a t b0 k) : Nat) ∧ cv = .int .i64 (lcB (bestRow s.a a t b0 k) : Nat) ∧ fv = .bool (lfB (bestRow s.a a t b0 k)) ∧ Ext w wr) (fun _ _ _ idx _ => c - (intOf idx).toNat)
      case atStart => exact ⟨0, by omega, by simp, rfl, rfl, rfl, hE1⟩
      case round =>
        obtain ⟨k, hk, rfl, rfl, rfl, rfl, hE2⟩ := hrel
        generalize wr = Y at *
        obtain ⟨d, hd⟩ : ∃ d, d = t + k := ⟨_, rfl⟩
        rw [← hd]
        have hcY := hE2.cell hcA
        have hc3Y := hE2.cell hc3
        by_cases hkl : k < C
        · have hdI : (d : Int) < (c : Int) := by omega
          obtain ⟨gx, cx, _, _, h1, o1, _, hel⟩ := (HW.out.a.ext hE2).atM HW.out.ra hc (by rw [HW.out.la]; exact han : a < _)
          have h2 := hel d (by omega)
          simp only at h1
          obtain ⟨z, hz⟩ : ∃ z, z = eM s.a a d := ⟨_, rfl⟩
          rw [← hz] at h2
          have Hzb := Lib.hid (show z.natAbs < 2 ^ E by rw [hz]; exact HA.out.el a d)
          have hb1 := bestRow_in Hb0.out hta han k (by omega)
          obtain ⟨b1, hbe⟩ : ∃ b1, b1 = bestRow s.a a t b0 k := ⟨_, rfl⟩
          have Hnx2 := Lib.hid (show bestRow s.a a t b0 (k + 1) = betB s.a b1 a d by rw [bestRow, hbe, hd])
          rw [← hbe] at hb1 ⊢
          have hidx : (Value.int .i64 ((d : Int) + 1)) = .int .i64 ((t + (k + 1) : Nat) : Int) := by rw [show ((t + (k + 1) : Nat) : Int) = (d : Int) + 1 by omega]
          have Hidx2 := Lib.hid hidx
          have hitz : (Lib.itoa z == [48]) = decide (z = 0) := itoa_eq_zero z
          have Hz := Lib.hid hz
          have Hb1 := Lib.hid hb1
          have k1 := cell_regrown hcY
          have k2 := cell_regrown h1
          have k3 := cell_regrown h2
          clear hz hbe hd hidx hel o1 hb1
          by_cases hz0 : z = 0
          · have hb : betB s.a b1 a d = b1 := by unfold betB; rw [if_pos (by rw [← Hz.out]; exact hz0)]
            rw [hb] at Hnx2
            rw [decide_eq_true hz0] at hitz
            have hitz2 : (Lib.itoa z != [48]) = false := by simp [bne, hitz]
            clear hz0 hb
            go_wp2_with fail
            refine wp_region_quiet_below (by kernel_rfl) (by kernel_rfl) ?_
            repeat (go_big_quiet_step (fail))
            refine wpQuiet_nil ?_
            intro _ hw'
            obtain ⟨⟨dq, osq⟩, hw''⟩ := hw'
            subst hw''
            have hE5 := hE2.trans (ext_regrown _ dq osq)
            clear k1 k2 k3
            go_wp2_with fail
            go_roundw
            case rel => exact ⟨k + 1, by omega, Hidx2.out, by rw [Hnx2.out], by rw [Hnx2.out], by rw [Hnx2.out], hE5⟩
            case measure => simp [intOf] <;> omega
          · rw [decide_eq_false hz0] at hitz
            have hitz2 : (Lib.itoa z != [48]) = true := by simp [bne, hitz]
            cases b1 with
            | none =>
              have hb : betB s.a none a d = some (a, d) := by unfold betB; rw [if_neg (by rw [← Hz.out]; exact hz0)]
              rw [hb] at Hnx2
              clear hz0 hb
              simp only [lrB, lcB, lfB]
              go_wp2_with fail
              refine wp_region_quiet_below (by kernel_rfl) (by kernel_rfl) ?_
              repeat (go_big_quiet_step (fail))
              refine wpQuiet_nil ?_
              intro _ hw'
              obtain ⟨⟨dq, osq⟩, hw''⟩ := hw'
              subst hw''
              have hE5 := hE2.trans (ext_regrown _ dq osq)
              clear k1 k2 k3
              go_wp2_with fail
              go_roundw
              case rel => exact ⟨k + 1, by omega, Hidx2.out, by rw [Hnx2.out], by rw [Hnx2.out], by rw [Hnx2.out], hE5⟩
              case measure => simp [intOf] <;> omega
            | some q =>
              obtain ⟨q1, q2⟩ := q
              obtain ⟨r1, r2, r3, r4, r5⟩ := Hb1.out (q1, q2) rfl
              simp only at r1 r2 r3 r4 r5
              have hq1 : (q1 : Int) < (n : Int) := by omega
              have hq2 : (q2 : Int) < (c : Int) := by omega
              obtain ⟨gq, cq, _, _, h3, _, _, helq⟩ := (HW.out.a.ext hE2).atM HW.out.ra hc (by rw [HW.out.la]; exact r2 : q1 < _)
              have h4 := helq q2 r4
              simp only at h3
              obtain ⟨y, hy⟩ : ∃ y, y = eM s.a q1 q2 := ⟨_, rfl⟩
              rw [← hy] at h4
              have hyb : y.natAbs < 2 ^ E := by rw [hy]; exact HA.out.el q1 q2
              have hzl : nd z ≤ LIM := by have := nd_lt2 Hzb.out; have := HE.out; omega
              have hyl : nd y ≤ LIM := by have := nd_lt2 hyb; have := HE.out; omega
              have hzl' : nd (z.natAbs : Int) ≤ LIM := by unfold nd at *; rw [Int.natAbs_natCast]; exact hzl
              have hyl' : nd (y.natAbs : Int) ≤ LIM := by unfold nd at *; rw [Int.natAbs_natCast]; exact hyl
              have k4 := cell_regrown h3
              have k5 := cell_regrown h4
              have bA := Lib.hid (fun (t : Int) (ht : nd t ≤ LIM) => quietC (w := Y) (fun W h => (Abs_any (z := t) ht W)))
              have Hzl := Lib.hid hzl
              have Hyl := Lib.hid hyl
              have b3 := Lib.hid (quietC (w := Y) (fun W h => (Compare_any (a := (z.natAbs : Int)) (b := (y.natAbs : Int)) hzl' hyl' W)))
              have Hcmp := Lib.hid (show cmpZ z.natAbs y.natAbs < 0 ↔ z.natAbs < y.natAbs by unfold cmpZ; split <;> (try split) <;> omega)
              obtain ⟨m, hm⟩ : ∃ m, m = cmpZ z.natAbs y.natAbs := ⟨_, rfl⟩
              rw [← hm] at b3 Hcmp
              have Hy := Lib.hid hy
              have HB2 := Lib.hid (show betB s.a (some (q1, q2)) a d = if z.natAbs < y.natAbs then some (a, d) else some (q1, q2) by unfold betB; rw [if_neg (by rw [← Hz.out]; exact hz0), Hz.out, hy])
              simp only [lrB, lcB, lfB]
              clear hz0 hy hyb hzl hyl hzl' hyl' hm r1 r2 r3 r4 r5 helq
              rcases Decidable.em (z.natAbs < y.natAbs) with hzy | hzy
              · have hq0 : m < 0 := Hcmp.out.2 hzy
                have hqd : decide (m < 0) = true := decide_eq_true hq0
                rw [if_pos hzy] at HB2
                rw [HB2.out] at Hnx2
                clear hzy HB2
                go_wp2_with fail
                refine wp_region_quiet_below (by kernel_rfl) (by kernel_rfl) ?_
                repeat (go_big_quiet_step (first | (refine bA.out _ ?_ _ _; first | exact Hzl.out | exact Hyl.out) | exact b3.out _ _))
                refine wpQuiet_nil ?_
                intro _ hw'
                obtain ⟨⟨dq, osq⟩, hw''⟩ := hw'
                subst hw''
                have hE5 := hE2.trans (ext_regrown _ dq osq)
                clear bA b3 k1 k2 k3 k4 k5
                go_wp2_with fail
                go_roundw
                case rel => exact ⟨k + 1, by omega, Hidx2.out, by rw [Hnx2.out], by rw [Hnx2.out], by rw [Hnx2.out], hE5⟩
                case measure => simp [intOf] <;> omega
              · have hq0 : 0 ≤ m := by have := mt Hcmp.out.1 hzy; omega
                have hqd : decide (m < 0) = false := decide_eq_false (by omega)
                rw [if_neg hzy] at HB2
                rw [HB2.out] at Hnx2
                clear hzy HB2
                go_wp2_with fail
                refine wp_region_quiet_below (by kernel_rfl) (by kernel_rfl) ?_
                repeat (go_big_quiet_step (first | (refine bA.out _ ?_ _ _; first | exact Hzl.out | exact Hyl.out) | exact b3.out _ _))
                refine wpQuiet_nil ?_
                intro _ hw'
                obtain ⟨⟨dq, osq⟩, hw''⟩ := hw'
                subst hw''
                have hE5 := hE2.trans (ext_regrown _ dq osq)
                clear bA b3 k1 k2 k3 k4 k5
                go_wp2_with fail
                go_roundw
                case rel => exact ⟨k + 1, by omega, Hidx2.out, by rw [Hnx2.out], by rw [Hnx2.out], by rw [Hnx2.out], hE5⟩
                case measure => simp [intOf] <;> omega
        · have hdI : ¬ (d : Int) < (c : Int) := by omega
          have hke : k = C := by omega
          clear hd
          subst hke
          go_wp2_with fail
          go_roundw
          case rel => exact ⟨i + 1, by omega, Hidx.out, by rw [Hnx.out], by rw [Hnx.out], by rw [Hnx.out], hE2⟩
          case measure => simp [intOf] <;> omega
    · have haI : ¬ (a : Int) < (n : Int) := by omega
      have hie : i = N := by omega
      clear ha
      subst hie
      go_wp2_with fail
      go_ret3
      exact ⟨rfl, hE1⟩
end Go.Proofs.YtkjnjmihfonilaaGreatDoor
namespace Go.Proofs.YtkjnjmihfonilaaGreatDoor
open Go.RowKit Go.Sort
theorem bm_set {E : Nat} {l : List Int} {i : Nat} {v : Int} (h : ∀ z ∈ l, z.natAbs < 2 ^ E) (hv : v.natAbs < 2 ^ E) : ∀ z ∈ l.set i v, z.natAbs < 2 ^ E := fun z hz => by
  rcases List.mem_or_eq_of_mem_set hz with hz | rfl
  · exact h z hz
  · exact hv
theorem bm_getD {E : Nat} {l : List Int} (h : ∀ z ∈ l, z.natAbs < 2 ^ E) (i : Nat) : (l.getD i 0).natAbs < 2 ^ E := by
  rcases Nat.lt_or_ge i l.length with hi | hi
  · rw [getD_get hi]; exact h _ (List.getElem_mem hi)
  · rw [List.getD_eq_getElem?_getD, List.getElem?_eq_none hi]; exact Nat.pow_pos (by omega)
theorem bm_colSwap {E i j : Nat} {A : Mx} (h : BM E A) : BM E (colSwap i j A) := fun r hr => by
  obtain ⟨l, hl, rfl⟩ := List.mem_map.1 hr
  exact bm_set (bm_set (h l hl) (bm_getD (h l hl) _)) (bm_getD (h l hl) _)
theorem bm_rowSwap {E i j : Nat} {A : Mx} (h : BM E A) (hi : i < A.length) (hj : j < A.length) : BM E (rowSwap i j A) := fun r hr => h r (sw2_mem hi hj hr)
theorem swapD_b {E n t i k : Nat} {s : Dg} (ha : BM E s.a) (hl : BM E s.l) (hr : BM E s.r) (la : s.a.length = n) (ll : s.l.length = n) (ht : t < n) (hi : i < n) : BM E (swapD t i k s).a ∧ BM E (swapD t i k s).l ∧ BM E (swapD t i k s).r :=
  ⟨bm_colSwap (bm_rowSwap ha (by omega) (by omega)), bm_rowSwap hl (by omega) (by omega), bm_colSwap hr⟩
theorem swapD_piv {n c t i k : Nat} {s : Dg} (la : s.a.length = n) (ra : Rect c s.a) (ht : t < n) (hi : i < n) (htc : t < c) (hk : k < c) : eM (swapD t i k s).a t t = eM s.a i k := by
  show eM (colSwap t k (rowSwap t i s.a)) t t = _
  rw [colSwap_map, eM_map _ (by simp [swapL])]
  have e : (rowSwap t i s.a).getD t [] = s.a.getD i [] := by
    rw [rowSwap_sw2, sw2_getD _ _ (by omega) (by omega)]
    by_cases h : t = i
    · rw [if_pos h, h]
    · rw [if_neg h, if_pos rfl]
  have hl : (s.a.getD i []).length = c := by rw [getD_get (by omega)]; exact ra _ (List.getElem_mem _)
  rw [e]
  unfold swapL
  rw [getD_set _ _ _ _ _ (by rw [List.length_set, hl]; exact hk), getD_set _ _ _ _ _ (by rw [hl]; exact htc)]
  by_cases h : t = k
  · rw [if_pos h, h]; rfl
  · rw [if_neg h, if_pos rfl]; rfl
theorem clearD_b {E n c t : Nat} {s : Dg} (ha : BM E s.a) (hl : BM E s.l) (hr : BM E s.r) (la : s.a.length = n) (ll : s.l.length = n) (ra : Rect c s.a) (ht : t < n) (htc : t < c) (hp : eM s.a t t ≠ 0) :
    BM (4 * E + 3) (clearD n c t s).a ∧ BM (4 * E + 3) (clearD n c t s).l ∧ BM (4 * E + 3) (clearD n c t s).r ∧ eM (clearD n c t s).a t t = eM s.a t t := by
  have h1 := rowsTo_b (s := s) (t := t) (j := n - (t + 1)) (E := E) (by omega) (by omega) ha hl hp
  have h2 := rowsTo_len t s (n - (t + 1))
  have h3 := (rowsTo_row t s (by omega) (n - (t + 1)) (by omega) t).1
  rw [if_neg (by omega)] at h3
  have hR1 : Rect c (rowsTo t (n - (t + 1)) s).a := fun r hr2 => by
    obtain ⟨i, hi, rfl⟩ := List.getElem_of_mem hr2
    have h4 := (rowsTo_row t s (by omega) (n - (t + 1)) (by omega) i).1
    rw [getD_get hi] at h4
    have hl2 : (s.a.getD i []).length = c := by rw [getD_get (by omega)]; exact ra _ (List.getElem_mem _)
    rw [h4]
    split
    · rw [subK_length]; exact hl2
    · exact hl2
  have hp1 : eM (rowsTo t (n - (t + 1)) s).a t t = eM s.a t t := by unfold eM; rw [h3]
  have hr1 : BM (2 * E + 1) (rowsTo t (n - (t + 1)) s).r := by rw [h2.2.2]; exact hr.mono (by omega)
  have h5 := colsTo_b (s := rowsTo t (n - (t + 1)) s) (t := t) (c := c) (j := c - (t + 1)) (E := 2 * E + 1) hR1 (by omega) (by omega) h1.1 hr1 (by rw [hp1]; exact hp)
  obtain ⟨i1, i2, i3⟩ := colsTo_map t c (rowsTo t (n - (t + 1)) s) hR1 (by omega) (c - (t + 1)) (by omega)
  have e4 : 2 * (2 * E + 1) + 1 = 4 * E + 3 := by omega
  rw [e4] at h5
  refine ⟨h5.1, ?_, h5.2, ?_⟩
  · show BM _ (colsTo t (c - (t + 1)) (rowsTo t (n - (t + 1)) s)).l
    rw [i2]; exact h1.2.mono (by omega)
  · show eM (colsTo t (c - (t + 1)) (rowsTo t (n - (t + 1)) s)).a t t = _
    have hrl : ((rowsTo t (n - (t + 1)) s).a.getD t []).length = c := by rw [getD_get (by omega)]; exact hR1 _ (List.getElem_mem _)
    rw [i1, eM_map _ (by simp [colA]), colA_getD, if_pos (by omega), if_neg (by omega), ← hp1]; rfl
theorem spoil_in {A : Mx} {t w : Nat} : ∀ {j i : Nat}, spoil A t w j = some i → t < i ∧ i < t + 1 + j
  | 0, i, h => by cases h
  | j + 1, i, h => by
    rw [spoil] at h
    cases hs : spoil A t w j with
    | some x =>
      rw [hs] at h
      injection h with h
      have := spoil_in hs
      omega
    | none =>
      rw [hs] at h
      simp only at h
      split at h
      · injection h with h; omega
      · cases h
theorem bdd_b {E : Nat} {s : Dg} (h : bddD E s = true) : BM E s.a ∧ BM E s.l ∧ BM E s.r := by
  unfold bddD at h
  simp only [Bool.and_eq_true] at h
  have hm : ∀ A, bddM E A = true → BM E A := fun A hA r hr z hz => of_decide_eq_true (List.all_eq_true.1 (List.all_eq_true.1 hA r hr) z hz)
  exact ⟨hm _ h.1.1, hm _ h.1.2, hm _ h.2⟩
theorem runD_succ {E n c f t : Nat} {s : Dg} {R : Nat × Dg} (h : runD E n c f t s = some R) : ∃ g, f = g + 1 ∧ bddD E s = true ∧ ((stepD n c t s = none ∧ R = (t, s)) ∨ ∃ q, stepD n c t s = some q ∧ runD E n c g q.1 q.2 = some R) := by
  cases f with
  | zero => cases h
  | succ g =>
    rw [runD] at h
    split at h
    · rename_i hb
      refine ⟨g, rfl, hb, ?_⟩
      cases hs : stepD n c t s with
      | none => rw [hs] at h; injection h with h; exact .inl ⟨rfl, h.symm⟩
      | some q => rw [hs] at h; exact .inr ⟨q, rfl, h⟩
    · cases h
end Go.Proofs.YtkjnjmihfonilaaGreatDoor
