/- Part 27 of the proof of the claim: contracts of the functions that it reaches, and plain laws; no condition. -/
import Derived.Test.YtkjnjmihfonilaaGreatDoorV07
import Derived.Test.YtkjnjmihfonilaaGreatDoorV23
import Derived.Test.YtkjnjmihfonilaaGreatDoorV02
import Derived.Test.YtkjnjmihfonilaaGreatDoorV25
namespace Go.Proofs.YtkjnjmihfonilaaGreatDoor
open Go.RowKit Go.Sort
theorem and1k {q : Nat} (h : q < 1024) : bits .and .i64 (q : Int) 1 = ((q % 2 : Nat) : Int) := by
  have : ∀ q : Fin 1024, bits .and .i64 ((q.val : Nat) : Int) 1 = ((q.val % 2 : Nat) : Int) := by decide +kernel
  exact this ⟨q, h⟩
def btP (p : Nat) : Nat := if p < 4 then 1 else if p < 8 then 2 else 3
set_option maxRecDepth 100000 in
theorem len64_ok {w : World} {p : Nat} (hp : SmP (p : Int)) : Calls Tryz.prog 159 #[.int .u64 p] w fun e w' => e = .returned (.int .i64 (btP p + 1 : Nat)) ∧ Ext w w' := by
  unfold SmP at hp
  rcases (show p = 2 ∨ p = 3 ∨ p = 5 ∨ p = 7 ∨ p = 11 ∨ p = 13 by omega) with rfl | rfl | rfl | rfl | rfl | rfl
  all_goals
    go_enter Tryz.func159, Tryz.ntmps159
    go_wp2_with fail
    go_ret
    exact ⟨ret_val (congrArg (Value.int .i64) (by decide +kernel)), Ext.refl _⟩
set_option maxRecDepth 100000 in
theorem bits_ok {w : World} {p : Nat} (hp : SmP (p : Int)) : Calls Tryz.prog 124 #[D p] w fun e w' => e = .returned (.int .i64 (btP p + 1 : Nat)) ∧ Ext w w' := by
  have h1 := Lib.hid (dSmall_ok (u := p) (by unfold SmP at hp; omega) w)
  have h2 := Lib.hid (fun W => len64_ok (w := W) hp)
  generalize btP p + 1 = k at *
  clear hp
  go_enter Tryz.func124, Tryz.ntmps124
  go_wp2_with fail
  refine h1.out.mono ?_
  rintro e W ⟨rfl, hE1⟩
  go_wp2_with fail
  refine (h2.out _).mono ?_
  rintro e W2 ⟨rfl, hE2⟩
  go_wp2_with fail
  go_ret
  exact ⟨rfl, hE1.trans hE2⟩
theorem pow_nd {p n : Nat} (hp : p < 16) (hn : n ≤ 1000) : Lib.nDigits (p ^ n) ≤ 4002 := by
  have h1 : p ^ n ≤ 16 ^ n := Nat.pow_le_pow_left (Nat.le_of_lt hp) n
  have h2 : (16 : Nat) ^ n = 2 ^ (4 * n) := by rw [Nat.pow_mul]
  have h3 : 2 ^ (4 * n) < 2 ^ (4 * n + 1) := Nat.pow_lt_pow_right (by omega) (by omega)
  have h4 := nd_lt2 (z := (p ^ n : Nat)) (E := 4 * n + 1) (by rw [Int.natAbs_natCast]; omega)
  unfold nd at h4
  rw [Int.natAbs_natCast] at h4
  omega
theorem ResU.mono' {B B' : Nat} {w : World} {v : Value} {u : Nat} (h : ResU B' w v u) (hB : B ≤ B') : ResU B w v u := by
  obtain ⟨g, cap, h1, h2⟩ := h
  exact ⟨g, cap, h1, h2.mono hB⟩
theorem pow_half {b m : Nat} : (b * b) ^ (m / 2) * b ^ (m % 2) = b ^ m := by
  rw [← Nat.pow_two, ← Nat.pow_mul, ← Nat.pow_add, Nat.div_add_mod]
set_option maxRecDepth 100000 in
set_option maxHeartbeats 4000000 in
theorem power_ok {w : World} {p n : Nat} (hp : SmP (p : Int)) (hn : n ≤ 1000) :
    Calls Tryz.prog 79 #[D p, .int .i64 n] w fun e w' => e = .returned (.tuple #[D (p ^ n), .int .i64 0]) ∧ Ext w w' := by
  have hp2 : 2 ≤ p ∧ p < 16 := by unfold SmP at hp; omega
  have d0 : (Lib.decDigits p == [48]) = false := by rw [dec_eq_zero, decide_eq_false (by omega)]
  have d1 : (Lib.decDigits p == [49]) = false := by
    rw [beq_eq_false_iff_ne]
    intro h
    have h1 : Lib.decDigits 1 = [49] := by decide +kernel
    have := dec_inj (h.trans h1.symm)
    omega
  by_cases hn0 : n = 0
  · subst hn0
    have hr : D (p ^ 0) = .string ⟨#[49]⟩ := by
      rw [Nat.pow_zero]
      have h1 : Lib.decDigits 1 = [49] := by decide +kernel
      unfold D S; rw [h1]
    rw [hr]
    clear hp hp2 hr hn
    go_enter Tryz.func79, Tryz.ntmps79
    go_wp2_with fail
    go_ret2
    exact ⟨rfl, Ext.refl _⟩
  · have hb := Lib.hid (fun W => bits_ok (w := W) hp)
    have hnd := pow_nd hp2.2 hn
    obtain ⟨k, hk⟩ : ∃ k : Nat, k = btP p := ⟨_, rfl⟩
    have hk13 : 1 ≤ k ∧ k ≤ 3 := by
      rw [hk]; unfold btP
      split
      · omega
      · split <;> omega
    rw [← hk] at hb
    have hkn : ¬ (k : Int) = 0 := by omega
    have hkb : ((k : Int) == 0) = false := beq_eq_false_iff_ne.2 hkn
    obtain ⟨q, hq⟩ : ∃ q : Int, q = (66439 : Int).tdiv k := ⟨_, rfl⟩
    have hq2 : 22146 ≤ q ∧ q ≤ 66439 := by
      rcases (show k = 1 ∨ k = 2 ∨ k = 3 by omega) with h | h | h <;> subst h <;> subst hq <;> decide
    have hqe : (66439 : Int).tdiv (k : Int) = q := hq.symm
    have hqw : IntKind.i64.wrap q = q := IntWalk.i64_in _ (by omega)
    have hqn : ¬ (n : Int) > q := by omega
    have hcu := Lib.hid (fun W => cut_any (u := p) (by
      have := nDigits_le (u := p) (k := 2) (by omega) (by omega)
      unfold LIM; omega) W)
    obtain ⟨N, hN⟩ : ∃ N, N = p ^ n := ⟨_, rfl⟩
    have hpN : p ≤ N := by rw [hN]; exact Nat.le_self_pow hn0 p
    have hN1 : 1 ≤ N := by omega
    rw [← hN] at hnd ⊢
    have hlenN : ∀ a, a ≤ N → (pc a).length ≤ 4002 := fun a ha => Nat.le_trans (pc_length_nd a) (Nat.le_trans (nDigits_mono ha) hnd)
    have HlenN := Lib.hid hlenN
    have Hnd := Lib.hid hnd
    have H0 := Lib.hid (show 1 ≤ N ∧ p ≤ N ∧ 1 * p ^ n = N ∧ 1 ≤ p from ⟨hN1, hpN, by rw [hN, Nat.one_mul], by omega⟩)
    have hnz : ¬ (n : Int) = 0 := by omega
    have hnz2 : ((n : Int) == 0) = false := beq_eq_false_iff_ne.2 hnz
    have hnlt : ¬ (n : Int) < 0 := by omega
    clear hp hp2 hk hq hN hpN hN1 hnd hlenN
    go_enter Tryz.func79, Tryz.ntmps79
    go_wp2_with fail
    refine (hb.out _).mono ?_
    rintro e X ⟨rfl, hE1⟩
    clear hb
    go_wp2_with fail
    refine (hcu.out _).mono ?_
    rintro e X2 ⟨v2, rfl, ⟨g2, c2, rfl, hO2⟩, hE2⟩
    have hEa := (Ext.refl X).alloc (.cells #[.int .u64 1] 126)
    have hO1 : OwnU X.heap.size (X.alloc (.cells #[.int .u64 1] 126)) X.heap.size 1 [1] := by
      unfold OwnU
      exact OwnV.of (Nat.le_refl _) Array.getElem?_push_size (by simp) (by unfold maxLen; omega) rfl rfl
    have hO1' := hO1.ext hE2
    have hR1 : ResU w.heap.size X2 (.slice (some ⟨X.heap.size, 0, none⟩) 1 1) 1 := by
      have hpc : pc 1 = [1] := by decide +kernel
      refine ⟨X.heap.size, 1, by rw [hpc]; rfl, ?_⟩
      rw [hpc]; exact OwnU.mono hO1' hE1.size
    have hs1 : w.heap.size ≤ (X.alloc (.cells #[.int .u64 1] 126)).heap.size := by have := hE1.size; simp; omega
    have hR2 : ResU w.heap.size X2 (slv g2 (pc p).length c2) p := ⟨_, _, rfl, OwnU.mono hO2 hs1⟩
    have HR1 := Lib.hid hR1
    have HR2 := Lib.hid hR2
    have e2 := (hE1.alloc (.cells #[.int .u64 1] 126)).trans hE2
    clear hcu hO1 hO1' hR1 hR2 hO2 hE1 hE2 hEa hs1 hqe hqw hqn hkn hkb hq2 hk13 d0 d1
    generalize hx1 : (Value.slice (some ⟨X.heap.size, 0, none⟩) 1 1) = x1 at *
    generalize hx2 : slv g2 (pc p).length c2 = x2 at *
    clear hx1 hx2
    go_wp2_with fail
    go_loopw [1, 7, 8] (fun mv ov pv wr => ∃ (m a b : Nat), m ≤ n ∧ mv = .int .i64 m ∧ Hid (ResU w.heap.size wr ov a) ∧ Hid (ResU w.heap.size wr pv b) ∧ Hid (a ≤ N ∧ b ≤ N ∧ a * b ^ m = N ∧ 1 ≤ b) ∧ Ext w wr) (fun mv _ _ _ => (intOf mv).toNat)
    case atStart => exact ⟨n, 1, p, by omega, by go_num, HR1, HR2, H0, e2⟩
    case round =>
      clear HR1 HR2 H0 hnz hnz2 hnlt
      obtain ⟨m, a, b, hm, rfl, HA, HB, HK, hE⟩ := hrel
      generalize wr = Y at *
      by_cases hm0 : 0 < m
      · have hmI : (0 : Int) < (m : Int) := by omega
        have han := and1k (q := m) (by omega)
        have hshr : (m : Int) / 2 = ((m / 2 : Nat) : Int) := by simp
        obtain ⟨ga, ca, rfl, hOa⟩ := HA.out
        obtain ⟨gb, cb, rfl, hOb⟩ := HB.out
        have la := HlenN.out a HK.out.1
        have lb := HlenN.out b HK.out.2.1
        have ht1 := fun W (hW : Ext Y W) => times_any (c1 := ca) (c2 := cb) (hOa.ext hW).sl (hOb.ext hW).sl (pc_small a) (pc_small b) (by unfold LIM; omega) (by unfold LIM; omega)
        have ht2 := fun W (hW : Ext Y W) => times_any (c1 := cb) (c2 := cb) (hOb.ext hW).sl (hOb.ext hW).sl (pc_small b) (pc_small b) (by unfold LIM; omega) (by unfold LIM; omega)
        rw [vP_pc, vP_pc] at ht1
        rw [vP_pc] at ht2
        have Ht1 := Lib.hid ht1
        have Ht2 := Lib.hid ht2
        have hYs := hE.size
        have Hshr := Lib.hid hshr
        obtain ⟨hf, hff⟩ : ∃ hf, hf = m / 2 := ⟨_, rfl⟩
        rw [← hff] at hshr Hshr
        have hfm : hf < m := by omega
        have hfn : hf ≤ n := by omega
        clear ht1 ht2
        have hbm : b ≤ b ^ m := Nat.le_self_pow (by omega) b
        by_cases hbit : m % 2 = 1
        · rw [hbit] at han
          have han2 : bits .and .i64 (m : Int) 1 = 1 := han
          by_cases hm1 : 1 < m
          · have hmI1 : (1 : Int) < (m : Int) := by omega
            have HK2 := Lib.hid (show a * b ≤ N ∧ b * b ≤ N ∧ a * b * (b * b) ^ hf = N ∧ 1 ≤ b * b by
              obtain ⟨k1, k2, k3, k4⟩ := HK.out
              have h5 := pow_half (b := b) (m := m)
              rw [← hff, hbit, Nat.pow_one] at h5
              have h6 : a * b * (b * b) ^ hf = N := by rw [← k3, ← h5, Nat.mul_assoc, Nat.mul_comm b]
              have h7 : 1 ≤ (b * b) ^ hf := Nat.pow_pos (Nat.mul_pos k4 k4)
              have h8 : b * b ≤ (b * b) ^ hf := Nat.le_self_pow (by omega) _
              have h9 : 1 ≤ a := by
                rcases Nat.eq_zero_or_pos a with h | h
                · subst h; simp at k3; omega
                · exact h
              have h10 : 1 ≤ a * b := Nat.mul_pos h9 k4
              exact ⟨by rw [← h6]; exact Nat.le_mul_of_pos_right _ h7, by rw [← h6]; exact Nat.le_trans h8 (Nat.le_mul_of_pos_left _ h10), h6, Nat.mul_pos k4 k4⟩)
            clear han hbit hff hbm la lb HK
            go_wp2_with fail
            refine (Ht1.out _ (Ext.refl _)).mono ?_
            rintro e Z ⟨z1, rfl, hr1, hF1⟩
            go_wp2_with fail
            refine (Ht2.out _ hF1).mono ?_
            rintro e Z2 ⟨z2, rfl, hr2, hF2⟩
            have Hr1 := Lib.hid ((hr1.ext hF2).mono' hYs)
            have Hr2 := Lib.hid (hr2.mono' (Nat.le_trans hYs hF1.size))
            have eZ := (hE.trans hF1).trans hF2
            clear hr1 hr2 hF1 hF2 Ht1 Ht2 hOa hOb
            go_wp2_with fail
            go_roundw
            case rel => exact ⟨hf, a * b, b * b, hfn, rfl, Hr1, Hr2, HK2, eZ⟩
            case measure => simp [intOf] <;> omega
          · have hmI1 : ¬ (1 : Int) < (m : Int) := by omega
            have hf0 : hf = 0 := by omega
            have HK2 := Lib.hid (show a * b ≤ N ∧ b ≤ N ∧ a * b * b ^ hf = N ∧ 1 ≤ b by
              obtain ⟨k1, k2, k3, k4⟩ := HK.out
              have : m = 1 := by omega
              subst this
              rw [Nat.pow_one] at k3
              rw [hf0, Nat.pow_zero, Nat.mul_one, k3]
              exact ⟨Nat.le_refl _, k2, rfl, k4⟩)
            clear han hbit hff hbm la lb HK hf0 Ht2
            go_wp2_with fail
            refine (Ht1.out _ (Ext.refl _)).mono ?_
            rintro e Z ⟨z1, rfl, hr1, hF1⟩
            have Hr1 := Lib.hid (hr1.mono' hYs)
            have Hr2 := Lib.hid (show ResU w.heap.size Z (slv gb (pc b).length cb) b from HB.out.ext hF1)
            have eZ := hE.trans hF1
            clear hr1 hF1 Ht1 hOa hOb
            go_wp2_with fail
            go_roundw
            case rel => exact ⟨hf, a * b, b, hfn, rfl, Hr1, Hr2, HK2, eZ⟩
            case measure => simp [intOf] <;> omega
        · have hb0 : m % 2 = 0 := by omega
          rw [hb0] at han
          have han2 : bits .and .i64 (m : Int) 1 = 0 := han
          have hm1 : 1 < m := by omega
          have hmI1 : (1 : Int) < (m : Int) := by omega
          have HK2 := Lib.hid (show a ≤ N ∧ b * b ≤ N ∧ a * (b * b) ^ hf = N ∧ 1 ≤ b * b by
            obtain ⟨k1, k2, k3, k4⟩ := HK.out
            have h5 := pow_half (b := b) (m := m)
            rw [← hff, hb0, Nat.pow_zero, Nat.mul_one] at h5
            have h6 : a * (b * b) ^ hf = N := by rw [← k3, ← h5]
            have h8 : b * b ≤ (b * b) ^ hf := Nat.le_self_pow (by omega) _
            have h9 : 1 ≤ a := by
              rcases Nat.eq_zero_or_pos a with h | h
              · subst h; simp at k3; omega
              · exact h
            exact ⟨k1, by rw [← h6]; exact Nat.le_trans h8 (Nat.le_mul_of_pos_left _ h9), h6, Nat.mul_pos k4 k4⟩)
          clear han hbit hb0 hff hbm la lb HK Ht1
          go_wp2_with fail
          refine (Ht2.out _ (Ext.refl _)).mono ?_
          rintro e Z2 ⟨z2, rfl, hr2, hF2⟩
          have Hr1 := Lib.hid (show ResU w.heap.size Z2 (slv ga (pc a).length ca) a from HA.out.ext hF2)
          have Hr2 := Lib.hid (hr2.mono' hYs)
          have eZ := hE.trans hF2
          clear hr2 hF2 Ht2 hOa hOb
          go_wp2_with fail
          go_roundw
          case rel => exact ⟨hf, a, b * b, hfn, rfl, Hr1, Hr2, HK2, eZ⟩
          case measure => simp [intOf] <;> omega
      · obtain rfl : m = 0 := by omega
        obtain ⟨ga, ca, rfl, hOa⟩ := HA.out
        have haN : a = N := by have := HK.out.2.2.1; simpa using this
        subst haN
        have htx := Lib.hid (textR hOa (by have := HlenN.out a (Nat.le_refl _); unfold LIM; omega))
        have hdl : ¬ ((Lib.decDigits a).length : Int) > 20000 := by rw [Lib.decDigits_length]; have := Hnd.out; omega
        have hdl2 : ¬ (20000 : Int) < ((Lib.decDigits a).length : Int) := by omega
        clear HK HB HA hOa hm0
        go_wp2_with fail
        refine htx.out.mono ?_
        rintro e Z ⟨rfl, hF⟩
        go_wp2_with fail
        go_ret2
        exact ⟨rfl, hE.trans hF⟩
end Go.Proofs.YtkjnjmihfonilaaGreatDoor
namespace Go.Proofs.YtkjnjmihfonilaaGreatDoor
open Go.RowKit Go.Sort
set_option maxRecDepth 100000 in
set_option maxHeartbeats 4000000 in
theorem mcheckAll1_ok {w : World} {vp : Value} {P : List Int} {b : Nat} {vx : Value} {x : List Int} (hP : RowR w vp P) (hp0 : 0 < P.length) (hp4 : P.length ≤ 4) (hpr : ∀ x ∈ P, SmP x) (hinc : ∀ i (h : i + 1 < P.length), P[i]'(by omega) < P[i + 1]) (hb : w.cell? ⟨b, 0, none⟩ = some vx) (hx : RowR w vx x) (hl : x.length = P.length) (hs : ∀ z ∈ x, -1000 ≤ z ∧ z ≤ 1000) :
    Calls Tryz.prog 123 #[vp, .slice (some ⟨b, 0, none⟩) 1 1] w fun e w' => e = .returned (.int .i64 0) ∧ Ext w w' := by
  have hck := Lib.hid (pCheck_ok hP hp0 (by omega) hpr hinc)
  obtain ⟨sx, gx, ox, cx, rfl, hxc, hSx⟩ := hx
  obtain ⟨sp, gp, op, cp, rfl, hpc, hSp⟩ := hP
  have HSx := Lib.hid hSx
  have Hs := Lib.hid hs
  have Hl := Lib.hid hl
  obtain ⟨n, hn⟩ : ∃ n, n = x.length := ⟨_, rfl⟩
  rw [← hl] at hck ⊢
  rw [← hn] at hck hb ⊢
  have Hn := Lib.hid hn
  have hn4 : n ≤ 4 := by omega
  clear hSx hSp hs hn hl hpr hinc hp0 hp4 hpc
  go_enter Tryz.func123, Tryz.ntmps123
  go_wp2_with fail
  refine hck.out.mono ?_
  rintro e X ⟨rfl, hE1⟩
  have yb := hE1.cell hb
  clear hck hb
  go_wp2_with fail
  go_loopw [4, 17] (fun rv idx wr => ∃ i : Nat, i ≤ 1 ∧ idx = .int .i64 i ∧ rv = .int .i64 0 ∧ Ext X wr) (fun _ idx _ => 1 - (intOf idx).toNat)
  case atStart => exact ⟨0, by omega, by go_num, rfl, Ext.refl _⟩
  case round =>
    obtain ⟨i, hi, rfl, rfl, hE⟩ := hrel
    generalize wr = Y at *
    have yb1 := hE.cell yb
    rcases (show i = 0 ∨ i = 1 by omega) with rfl | rfl
    · go_wp2_with fail
      go_loopw [4, 28] (fun rv idx wr => ∃ j : Nat, j ≤ n ∧ idx = .int .i64 j ∧ rv = .int .i64 0 ∧ Ext Y wr) (fun _ idx _ => n - (intOf idx).toNat)
      case atStart => exact ⟨0, by omega, by go_num, rfl, Ext.refl _⟩
      case round =>
        obtain ⟨j, hj, rfl, rfl, hE2⟩ := hrel
        generalize wr = Z at *
        by_cases hjl : j < n
        · have hji : (j : Int) < (n : Int) := by omega
          have hjx : j < x.length := by rw [← Hn.out]; exact hjl
          obtain ⟨z, hz⟩ : ∃ z, z = x[j] := ⟨_, rfl⟩
          have hcz := ((hE1.trans hE).trans hE2).cell (HSx.out.cell j (.int .i64 z) (by rw [hz]; exact is_get hjx))
          obtain rfl := HSx.out.addr (by simp; omega)
          have hzb := Hs.out z (by rw [hz]; exact List.getElem_mem hjx)
          have hz1 : ¬ (1000 : Int) < z := by omega
          have hz2 : ¬ z < (-1000 : Int) := by omega
          clear hz hzb
          go_wp2_with fail
          go_roundw
          case rel => exact ⟨j + 1, by omega, by go_num, rfl, hE2⟩
          case measure => simp [intOf] <;> omega
        · obtain rfl : j = n := by omega
          go_wp2_with fail
          go_roundw
          case rel => exact ⟨1, by omega, by go_num, rfl, hE.trans hE2⟩
          case measure => simp [intOf] <;> omega
    · go_wp2_with fail
      go_ret
      exact ⟨rfl, hE1.trans hE⟩
set_option maxRecDepth 100000 in
theorem mcheck_ok {w : World} {vp : Value} {P : List Int} {sx : Option Addr} {n cx : Nat} {x : List Int} (hP : RowR w vp P) (hp0 : 0 < P.length) (hp4 : P.length ≤ 4) (hpr : ∀ x ∈ P, SmP x) (hinc : ∀ i (h : i + 1 < P.length), P[i]'(by omega) < P[i + 1]) (hx : RowR w (.slice sx n cx) x) (hl : x.length = P.length) (hs : ∀ z ∈ x, -1000 ≤ z ∧ z ≤ 1000) :
    Calls Tryz.prog 78 #[vp, .slice sx n cx] w fun e w' => e = .returned (.int .i64 0) ∧ Ext w w' := by
  have hX := (Ext.refl w).alloc (.cells #[.slice sx n cx] 26)
  have xb : (w.alloc (.cells #[.slice sx n cx] 26)).cell? ⟨w.heap.size, 0, none⟩ = some (.slice sx n cx) := by go_simp
  have hck := Lib.hid (mcheckAll1_ok (hP.ext hX) hp0 hp4 hpr hinc xb (hx.ext hX) hl hs)
  obtain ⟨sp, gp, op, cp, rfl, hpc, hSp⟩ := hP
  clear hSp hx hl hs hpr hinc hpc
  go_enter Tryz.func78, Tryz.ntmps78
  go_wp2_with fail
  refine hck.out.mono ?_
  rintro e X ⟨rfl, hE1⟩
  go_wp2_with fail
  go_ret
  exact ⟨rfl, hX.trans hE1⟩
theorem hgt_nd {P y : List Int} (hP : ∀ x ∈ P, SmP x) (hl : y.length = P.length) (hs : ∀ z ∈ y, -1000 ≤ z ∧ z ≤ 1000) : ∀ k, k ≤ y.length → Lib.nDigits (hgt P y k) ≤ 1 + 4002 * k
  | 0, _ => by show Lib.nDigits 1 ≤ _; have := nDigits_le (u := 1) (k := 1) (by omega) (by omega); omega
  | k + 1, hk => by
    have h1 := hgt_nd hP hl hs k (by omega)
    have hp := hP _ (List.getElem_mem (show k < P.length by omega))
    have hz := hs _ (List.getElem_mem (show k < y.length by omega))
    have h2 := pow_nd (p := (P.getD k 0).toNat) (n := (y.getD k 0).natAbs) (by rw [getD_get (show k < P.length by omega)]; unfold SmP at hp; omega) (by rw [getD_get (show k < y.length by omega)]; omega)
    have h3 := nd_mul ((hgt P y k : Nat) : Int) (((P.getD k 0).toNat ^ (y.getD k 0).natAbs : Nat) : Int)
    unfold nd at h3
    rw [Int.natAbs_mul, Int.natAbs_natCast, Int.natAbs_natCast] at h3
    rw [hgt]
    omega
set_option maxRecDepth 100000 in
set_option maxHeartbeats 4000000 in
theorem gproduct_ok {w : World} {vp : Value} {P : List Int} {sx : Option Addr} {n cx : Nat} {x : List Int} (hP : RowR w vp P) (hp0 : 0 < P.length) (hp4 : P.length ≤ 4) (hpr : ∀ x ∈ P, SmP x) (hinc : ∀ i (h : i + 1 < P.length), P[i]'(by omega) < P[i + 1]) (hx : RowR w (.slice sx n cx) x) (hl : x.length = P.length) (hs : ∀ z ∈ x, -1000 ≤ z ∧ z ≤ 1000) (hL : Laid w) :
    Calls Tryz.prog 42 #[vp, .slice sx n cx] w fun e w' => e = .returned (.tuple #[D (hgtA P x), .int .i64 0]) ∧ Ext w w' := by
  have hck := Lib.hid (mcheck_ok hP hp0 hp4 hpr hinc hx hl hs)
  have Hnd := Lib.hid (hgt_nd hpr hl hs)
  have Hpr := Lib.hid hpr
  have Hs := Lib.hid hs
  have HL := Lib.hid hL
  obtain ⟨sp, gp, op, cp, rfl, hpc, hSp⟩ := hP
  obtain ⟨sx', gx, ox, cx', ex, hxc, hSx⟩ := hx
  injection ex with q1 q2 q3
  subst q1 q3
  have HSx := Lib.hid hSx
  have HSp := Lib.hid hSp
  rw [← hl] at hck hpc ⊢
  rw [← q2] at hck hpc hxc ⊢
  have Hn := Lib.hid q2
  have Hl := Lib.hid hl
  have hn4 : n ≤ 4 := by omega
  unfold hgtA
  rw [← q2]
  clear hSp hSx q2 hl hs hpr hinc hL hp0 hp4
  go_enter Tryz.func42, Tryz.ntmps42
  go_wp2_with fail
  refine hck.out.mono ?_
  rintro e X ⟨rfl, hE1⟩
  clear hck
  go_wp2_with fail
  go_loopw [7, 20] (fun ov idx wr => ∃ i : Nat, i ≤ n ∧ idx = .int .i64 i ∧ ov = D (hgt P x i) ∧ Ext X wr) (fun _ idx _ => n - (intOf idx).toNat)
  case atStart => exact ⟨0, by omega, by go_num, (show D 1 = _ by
    have h1 : Lib.decDigits 1 = [49] := by decide +kernel
    unfold D S; rw [h1]).symm, Ext.refl _⟩
  case round =>
    obtain ⟨i, hi, rfl, rfl, hE⟩ := hrel
    generalize wr = Y at *
    by_cases hil : i < n
    · have hii : (i : Int) < (n : Int) := by omega
      have hix : i < x.length := by rw [← Hn.out]; exact hil
      have hip : i < P.length := by rw [← Hl.out]; exact hix
      obtain ⟨z, hz⟩ : ∃ z, z = x[i] := ⟨_, rfl⟩
      obtain ⟨p, hp⟩ : ∃ p : Nat, p = P[i].toNat := ⟨_, rfl⟩
      have hsp := Hpr.out _ (List.getElem_mem hip)
      have hpz : P[i] = (p : Int) := by unfold SmP at hsp; omega
      have eY := hE1.trans hE
      have hcz := eY.cell (HSx.out.cell i (.int .i64 z) (by rw [hz]; exact is_get hix))
      have hcp := eY.cell (HSp.out.cell i (.int .i64 p) (by rw [← hpz]; exact is_get hip))
      obtain rfl := HSx.out.addr (by simp; omega)
      obtain rfl := HSp.out.addr (by simp; omega)
      have hzb := Hs.out z (by rw [hz]; exact List.getElem_mem hix)
      have hp16 : p < 16 := by unfold SmP at hsp; omega
      rw [hpz] at hsp
      have hof := Lib.hid (fun W (hW : Ext w W) => dOf_any (u := p) (w := W) (by omega) (HL.out.ext hW))
      obtain ⟨m, hm⟩ : ∃ m : Nat, m = z.natAbs := ⟨_, rfl⟩
      have hmx : max z (-z) = (m : Int) := by omega
      have hwn : IntKind.i64.wrap (-z) = -z := IntWalk.i64_in _ (by omega)
      have hpo := Lib.hid (fun W => power_ok (w := W) (p := p) (n := m) hsp (by omega))
      have Hst := Lib.hid (show hgt P x (i + 1) = hgt P x i * p ^ m by
        rw [hgt, getD_get hip, getD_get hix, ← hz, hpz, hm]; rfl)
      have hmu := Lib.hid (fun W (hW : Ext w W) => dMul_any (u := hgt P x i) (v := p ^ m) (by
        have h1 := Hnd.out i (by omega)
        have h2 := pow_nd (p := p) (n := m) hp16 (by omega)
        unfold LIM; omega) (HL.out.ext hW))
      have hcv : IntKind.u64.wrap (p : Int) = p := by
        have := IntWalk.u64_in (p : Int) (by omega) 
        exact this
      clear hz hp hpz hsp hzb hm
      generalize p ^ m = pm at *
      go_wp2_with fail
      refine (hof.out _ eY).mono ?_
      rintro e W ⟨rfl, hE2⟩
      have e2 := eY.trans hE2
      go_wp2_with fail
      refine (hpo.out _).mono ?_
      rintro e W2 ⟨rfl, hE3⟩
      have e3 := e2.trans hE3
      go_wp2_with fail
      refine (hmu.out _ e3).mono ?_
      rintro e W3 ⟨rfl, hE4⟩
      have eF := ((hE.trans hE2).trans hE3).trans hE4
      go_wp2_with fail
      go_roundw
      case rel => exact ⟨i + 1, by omega, by go_num, by rw [Hst.out], eF⟩
      case measure => simp [intOf] <;> omega
    · obtain rfl : i = n := by omega
      go_wp2_with fail
      go_ret2
      exact ⟨rfl, hE1.trans hE⟩
end Go.Proofs.YtkjnjmihfonilaaGreatDoor
namespace Go.Proofs.YtkjnjmihfonilaaGreatDoor
open Go.RowKit Go.Sort
theorem dgB_sym {b : Nat} (hb : 0 < b) : ∀ n k, k < b ^ n → dgB b n (b ^ n - 1 - k) = (dgB b n k).map fun d => b - 1 - d
  | 0, _, _ => rfl
  | n + 1, k, hk => by
    have hp : 0 < b ^ n := Nat.pow_pos hb
    have h1 := Nat.div_add_mod k b
    have h2 := Nat.mod_lt k hb
    have hq : k / b < b ^ n := by
      rw [Nat.div_lt_iff_lt_mul hb]; rw [Nat.pow_succ] at hk; exact hk
    have e0 : b ^ (n + 1) - 1 - k = b * (b ^ n - 1 - k / b) + (b - 1 - k % b) := by
      have h3 : b * (b ^ n - 1 - k / b) = b * b ^ n - b - b * (k / b) := by rw [Nat.mul_sub, Nat.mul_sub, Nat.mul_one]
      have h4 : b * (k / b) + b ≤ b * b ^ n := by
        have := Nat.mul_le_mul_left b (show k / b + 1 ≤ b ^ n by omega)
        rw [Nat.mul_add, Nat.mul_one] at this; exact this
      rw [h3, Nat.pow_succ, Nat.mul_comm (b ^ n) b]
      omega
    have e1 : (b ^ (n + 1) - 1 - k) / b = b ^ n - 1 - k / b := by
      rw [e0, Nat.mul_add_div hb, Nat.div_eq_of_lt (show b - 1 - k % b < b by omega), Nat.add_zero]
    have e2 : (b ^ (n + 1) - 1 - k) % b = b - 1 - k % b := by
      rw [e0, Nat.mul_add_mod, Nat.mod_eq_of_lt (show b - 1 - k % b < b by omega)]
    rw [dgB, e1, e2, dgB_sym hb n _ hq, dgB, List.map_append]
    rfl
theorem bxR_sym {n m k : Nat} (hk : k < (2 * m + 1) ^ n) : bxR n m ((2 * m + 1) ^ n - 1 - k) = (bxR n m k).map (- ·) := by
  unfold bxR
  rw [dgB_sym (by omega) n k hk, List.map_map, List.map_map]
  refine List.map_congr_left fun d hd => ?_
  have := dgB_lt (show 0 < 2 * m + 1 by omega) n k d hd
  simp only [Function.comp]
  omega
theorem bxR_last (n m : Nat) : bxR n m ((2 * m + 1) ^ n - 1) = List.replicate n (m : Int) := by
  have h := bxR_sym (n := n) (m := m) (k := 0) (Nat.pow_pos (by omega))
  rw [Nat.sub_zero, bxR_zero, List.map_replicate] at h
  rw [h]; simp
theorem bxR_done {n m k : Nat} (h : ∀ i, i < n → (bxR n m k).getD i 0 = m) (hk : k < (2 * m + 1) ^ n) : k + 1 = (2 * m + 1) ^ n := by
  rcases Nat.eq_zero_or_pos m with h0 | h0
  · subst h0
    rw [Nat.mul_zero, Nat.zero_add, Nat.one_pow] at hk ⊢
    omega
  · exact (bxR_carry (j := 0) h0 (Nat.zero_le _) (fun i _ hi => h i hi)).1 rfl hk
theorem bxR_step {n m k j : Nat} (hj : 0 < j) (hjn : j ≤ n) (h : ∀ i, j ≤ i → i < n → (bxR n m k).getD i 0 = m) (hd : (bxR n m k).getD (j - 1) 0 ≠ m) (hk : k < (2 * m + 1) ^ n) :
    bxR n m (k + 1) = (bxR n m k).take (j - 1) ++ [(bxR n m k).getD (j - 1) 0 + 1] ++ List.replicate (n - j) (-(m : Int)) ∧ k + 1 < (2 * m + 1) ^ n := by
  rcases Nat.eq_zero_or_pos m with h0 | h0
  · subst h0
    exfalso
    have hm : j - 1 < (bxR n 0 k).length := by simp; omega
    rw [getD_get hm] at hd
    have := bxR_b n 0 k _ (List.getElem_mem hm)
    omega
  · refine ⟨(bxR_carry h0 hjn h).2 hj hd, ?_⟩
    rcases Nat.lt_or_ge (k + 1) ((2 * m + 1) ^ n) with h1 | h1
    · exact h1
    · exfalso
      have h2 : k = (2 * m + 1) ^ n - 1 := by omega
      rw [h2, bxR_last, getD_get (by simp; omega)] at hd
      simp at hd
def bxT (n m k j : Nat) : List Int := (bxR n m k).take j ++ List.replicate (n - j) (-(m : Int))
@[simp] theorem bxT_length {n m k j : Nat} (h : j ≤ n) : (bxT n m k j).length = n := by simp [bxT]; omega
theorem bxT_all (n m k : Nat) : bxT n m k n = bxR n m k := by
  unfold bxT
  rw [Nat.sub_self, List.replicate_zero, List.append_nil, List.take_of_length_le (by simp)]
theorem bxT_get {n m k j : Nat} (hj : 0 < j) (hjn : j ≤ n) : (bxT n m k j)[j - 1]'(by rw [bxT_length hjn]; omega) = (bxR n m k).getD (j - 1) 0 := by
  unfold bxT
  rw [List.getElem_append_left (by simp; omega), List.getElem_take, getD_get (by simp; omega)]
theorem bxT_set {n m k j : Nat} (hj : 0 < j) (hjn : j ≤ n) (z : Int) : (bxT n m k j).set (j - 1) z = (bxR n m k).take (j - 1) ++ [z] ++ List.replicate (n - j) (-(m : Int)) := by
  have e : (bxR n m k).take j = (bxR n m k).take (j - 1) ++ [(bxR n m k)[j - 1]'(by simp; omega)] := by
    rw [List.take_append_getElem (by simp; omega), show j - 1 + 1 = j by omega]
  have hl : ((bxR n m k).take (j - 1)).length = j - 1 := by simp; omega
  unfold bxT
  rw [e, List.append_assoc, List.set_append_right _ _ (by omega), hl, Nat.sub_self]
  simp
theorem bxT_pred {n m k j : Nat} (hj : 0 < j) (hjn : j ≤ n) : (bxT n m k j).set (j - 1) (-(m : Int)) = bxT n m k (j - 1) := by
  rw [bxT_set hj hjn, List.append_assoc]
  unfold bxT
  rw [show n - (j - 1) = n - j + 1 by omega, List.replicate_succ]
  rfl
end Go.Proofs.YtkjnjmihfonilaaGreatDoor
