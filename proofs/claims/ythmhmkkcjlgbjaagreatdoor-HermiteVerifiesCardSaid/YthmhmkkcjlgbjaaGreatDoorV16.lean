/- Part 16 of the proof of the claim: contracts of the functions that it reaches, and plain laws; no condition. -/
import Derived.Test.YthmhmkkcjlgbjaaGreatDoorV15
/- schismaref03: minus -/
namespace Go.Proofs.YthmhmkkcjlgbjaaGreatDoor
open Go.RowKit Go.Sort
theorem minus_step {o b a w w' P d x y : Nat} (h : o + b = a + w * P) (hd : d + y + w = x + w' * 1000000000) : o + P * d + (b + P * y) = a + P * x + w' * (P * 1000000000) := by
  have h2 : P * (d + y + w) = P * (x + w' * 1000000000) := by rw [hd]
  rw [Nat.mul_add, Nat.mul_add, Nat.mul_add, Nat.mul_comm P w] at h2
  have h3 : P * (w' * 1000000000) = w' * (P * 1000000000) := by rw [Nat.mul_left_comm]
  omega
set_option maxRecDepth 100000 in
set_option maxHeartbeats 2000000 in
theorem minus_w {w : World} {va vb : Value} {p q : List Nat} (hA : DgR w va p) (hB : DgR w vb q) (s1 : small9 p) (s2 : small9 q) (l1 : p.length ≤ 900000000) (l2 : q.length ≤ p.length) (hle : vP q ≤ vP p) :
    Calls Tryz.prog 107 #[va, vb] w fun e w' => ∃ v, e = .returned v ∧ DgO w.heap.size w' v (vP p - vP q) ∧ Ext w w' := by
  obtain ⟨ga, b1, o1, c1, rfl, k1, h1⟩ := hA.open
  obtain ⟨gb, b2, o2, c2, rfl, k2, h2⟩ := hB.open
  have H1 := Lib.hid h1
  have H2 := Lib.hid h2
  have S1 := Lib.hid s1
  have S2 := Lib.hid s2
  clear hA hB k1 k2 h1 h2 s1 s2
  obtain ⟨la, hla⟩ : ∃ la, la = p.length := ⟨_, rfl⟩
  obtain ⟨lb, hlb⟩ : ∃ lb, lb = q.length := ⟨_, rfl⟩
  rw [← hla] at l1 l2 ⊢
  rw [← hlb] at l2 ⊢
  have Ha := Lib.hid hla
  have Hb := Lib.hid hlb
  have Hle := Lib.hid hle
  clear hla hlb hle
  go_enter Tryz.func107, Tryz.ntmps107
  go_wp2_with fail
  go_loopw [5, 6, 7] (fun out cy idx wr => ∃ (i bw : Nat) (o : List Nat), i ≤ la ∧ idx = .int .i64 i ∧ cy = .int .i64 bw ∧ bw ≤ 1 ∧ Hid (o.length = i ∧ small9 o ∧ vP o + vP (q.take i) = vP (p.take i) + bw * 1000000000 ^ i) ∧ Hid (RowV w.heap.size wr out (nz o)) ∧ Ext w wr) (fun _ _ idx _ => la - (intOf idx).toNat)
  case atStart => exact ⟨0, 0, [], by omega, by go_num, by go_num, by omega, ⟨rfl, (fun d hd => by cases hd), by simp [vP]⟩, Lib.hid (RowV.nil _ _), Ext.refl _⟩
  case round =>
    obtain ⟨i, bw, o, hi, rfl, rfl, hc1, Ho, hO, hE⟩ := hrel
    generalize wr = X at *
    have hci : ((bw : Nat) : Int) ≤ 1 := by omega
    have hXs := hE.size
    by_cases hlt : i < la
    · obtain ⟨x, hx⟩ : ∃ x, x = p.getD i 0 := ⟨_, rfl⟩
      obtain ⟨y, hy⟩ : ∃ y, y = q.getD i 0 := ⟨_, rfl⟩
      have hx9 : x < 1000000000 := by rw [hx]; exact getD_small S1.out i
      have hy9 : y < 1000000000 := by rw [hy]; exact getD_small S2.out i
      have hp : i < p.length := by rw [← Ha.out]; exact hlt
      obtain rfl := H1.out.addr (by simp; omega)
      have cx : X.cell? ⟨b1, o1 + i, none⟩ = some (.int .i64 (x : Nat)) := by
        rw [hx, getD_get hp]; exact hE.cell (H1.out.cell i _ (nz_get hp))
      have hcy : i < lb → ∃ g, gb = some g ∧ g = ⟨b2, o2, none⟩ ∧ X.cell? ⟨b2, o2 + i, none⟩ = some (.int .i64 (y : Nat)) := fun h => by
        have hp : i < q.length := by rw [← Hb.out]; exact h
        refine ⟨_, H2.out.addr (by simp; omega), rfl, ?_⟩
        rw [hy, getD_get hp]; exact hE.cell (H2.out.cell i _ (nz_get hp))
      have hy0 : ¬ i < lb → y = 0 := fun h => by rw [hy, List.getD_eq_getElem?_getD, List.getElem?_eq_none (by rw [← Hb.out]; omega)]; rfl
      have hstep : ∀ d bw', d < 1000000000 → d + y + bw = x + bw' * 1000000000 → (o ++ [d]).length = i + 1 ∧ small9 (o ++ [d]) ∧ vP (o ++ [d]) + vP (q.take (i + 1)) = vP (p.take (i + 1)) + bw' * 1000000000 ^ (i + 1) := fun d bw' hd hw => by
        refine ⟨by rw [List.length_append, Ho.out.1]; rfl, small9_snoc Ho.out.2.1 hd, ?_⟩
        rw [vP_take_d, vP_take_d, vP_snoc, Ho.out.1, ← hx, ← hy, Nat.pow_succ]
        exact minus_step Ho.out.2.2 hw
      have Hol := Lib.hid Ho.out.1
      have Hol2 := Lib.hid (show (nz o).length ≤ 1000000000 by rw [nz_length, Hol.out]; omega)
      have a1 : (i : Int) < (la : Int) := by omega
      clear hp
      by_cases hB : i < lb
      · by_cases hneg : (x : Int) - (bw : Int) - (y : Int) < 0
        · skip
          obtain ⟨_, rfl, rfl, cy⟩ := hcy hB
          have b3 : (i : Int) < (lb : Int) := by omega
          have b4 : decide (i < lb) = true := decide_eq_true hB
          have n1 : (x : Int) - (bw : Int) - (y : Int) < 0 := by omega
          have n2 : decide ((x : Int) - (bw : Int) - (y : Int) < 0) = true := decide_eq_true n1
          obtain ⟨d, hd⟩ : ∃ d : Nat, (x : Int) - (bw : Int) - (y : Int) + 1000000000 = (d : Int) := ⟨((x : Int) - (bw : Int) - (y : Int) + 1000000000).toNat, by omega⟩
          have hd9 : d < 1000000000 := by omega
          have Hst := Lib.hid (hstep d 1 hd9 (by omega))
          have Hz := Lib.hid (nz_snoc o d)
          have Hd := Lib.hid hd
          clear hcy hy0 hy hx hstep hd hd9
          go_wp2_with (at_builtin; refine app_int rfl _ _ 34 Tryz.underlying34 rfl rfl (hO.out.ext ((Ext.refl _).alloc _)) rfl (b := X.heap.size) (z := (x : Int) - (bw : Int) - (y : Int) + 1000000000) (by go_simp) Hol2.out (by simp; omega) ?_; intro gg cap2 w8 hO8 hB8 hG8; rw [Hd.out, ← Hz.out, nz_length, Hol.out] at hO8; rw [nz_length, Hol.out])
          have hE8 : Ext w w8 := Below.trans (hE.alloc (.cells #[.int .i64 ((x : Int) - (bw : Int) - (y : Int) + 1000000000)] 3)) hB8
          have hO9 := Lib.hid hO8
          clear hG8 hB8 hO8
          go_wp2_with fail
          go_roundw
          case rel => exact ⟨i + 1, 1, o ++ [d], by omega, by go_num, by go_num, by omega, Hst, hO9, hE8⟩
          case measure => simp [intOf] <;> omega
        · skip
          obtain ⟨_, rfl, rfl, cy⟩ := hcy hB
          have b3 : (i : Int) < (lb : Int) := by omega
          have b4 : decide (i < lb) = true := decide_eq_true hB
          have n1 : ¬ (x : Int) - (bw : Int) - (y : Int) < 0 := by omega
          have n2 : decide ((x : Int) - (bw : Int) - (y : Int) < 0) = false := decide_eq_false n1
          obtain ⟨d, hd⟩ : ∃ d : Nat, (x : Int) - (bw : Int) - (y : Int) = (d : Int) := ⟨((x : Int) - (bw : Int) - (y : Int)).toNat, by omega⟩
          have hd9 : d < 1000000000 := by omega
          have Hst := Lib.hid (hstep d 0 hd9 (by omega))
          have Hz := Lib.hid (nz_snoc o d)
          have Hd := Lib.hid hd
          clear hcy hy0 hy hx hstep hd hd9
          go_wp2_with (at_builtin; refine app_int rfl _ _ 34 Tryz.underlying34 rfl rfl (hO.out.ext ((Ext.refl _).alloc _)) rfl (b := X.heap.size) (z := (x : Int) - (bw : Int) - (y : Int)) (by go_simp) Hol2.out (by simp; omega) ?_; intro gg cap2 w8 hO8 hB8 hG8; rw [Hd.out, ← Hz.out, nz_length, Hol.out] at hO8; rw [nz_length, Hol.out])
          have hE8 : Ext w w8 := Below.trans (hE.alloc (.cells #[.int .i64 ((x : Int) - (bw : Int) - (y : Int))] 3)) hB8
          have hO9 := Lib.hid hO8
          clear hG8 hB8 hO8
          go_wp2_with fail
          go_roundw
          case rel => exact ⟨i + 1, 0, o ++ [d], by omega, by go_num, by go_num, by omega, Hst, hO9, hE8⟩
          case measure => simp [intOf] <;> omega
      · by_cases hneg : (x : Int) - (bw : Int) < 0
        · skip
          have hy1 := hy0 hB
          have b3 : ¬ (i : Int) < (lb : Int) := by omega
          have b4 : decide (i < lb) = false := decide_eq_false hB
          have n1 : (x : Int) - (bw : Int) < 0 := by omega
          have n2 : decide ((x : Int) - (bw : Int) < 0) = true := decide_eq_true n1
          obtain ⟨d, hd⟩ : ∃ d : Nat, (x : Int) - (bw : Int) + 1000000000 = (d : Int) := ⟨((x : Int) - (bw : Int) + 1000000000).toNat, by omega⟩
          have hd9 : d < 1000000000 := by omega
          have Hst := Lib.hid (hstep d 1 hd9 (by omega))
          have Hz := Lib.hid (nz_snoc o d)
          have Hd := Lib.hid hd
          clear hcy hy0 hy hx hstep hd hd9
          go_wp2_with (at_builtin; refine app_int rfl _ _ 34 Tryz.underlying34 rfl rfl (hO.out.ext ((Ext.refl _).alloc _)) rfl (b := X.heap.size) (z := (x : Int) - (bw : Int) + 1000000000) (by go_simp) Hol2.out (by simp; omega) ?_; intro gg cap2 w8 hO8 hB8 hG8; rw [Hd.out, ← Hz.out, nz_length, Hol.out] at hO8; rw [nz_length, Hol.out])
          have hE8 : Ext w w8 := Below.trans (hE.alloc (.cells #[.int .i64 ((x : Int) - (bw : Int) + 1000000000)] 3)) hB8
          have hO9 := Lib.hid hO8
          clear hG8 hB8 hO8
          go_wp2_with fail
          go_roundw
          case rel => exact ⟨i + 1, 1, o ++ [d], by omega, by go_num, by go_num, by omega, Hst, hO9, hE8⟩
          case measure => simp [intOf] <;> omega
        · skip
          have hy1 := hy0 hB
          have b3 : ¬ (i : Int) < (lb : Int) := by omega
          have b4 : decide (i < lb) = false := decide_eq_false hB
          have n1 : ¬ (x : Int) - (bw : Int) < 0 := by omega
          have n2 : decide ((x : Int) - (bw : Int) < 0) = false := decide_eq_false n1
          obtain ⟨d, hd⟩ : ∃ d : Nat, (x : Int) - (bw : Int) = (d : Int) := ⟨((x : Int) - (bw : Int)).toNat, by omega⟩
          have hd9 : d < 1000000000 := by omega
          have Hst := Lib.hid (hstep d 0 hd9 (by omega))
          have Hz := Lib.hid (nz_snoc o d)
          have Hd := Lib.hid hd
          clear hcy hy0 hy hx hstep hd hd9
          go_wp2_with (at_builtin; refine app_int rfl _ _ 34 Tryz.underlying34 rfl rfl (hO.out.ext ((Ext.refl _).alloc _)) rfl (b := X.heap.size) (z := (x : Int) - (bw : Int)) (by go_simp) Hol2.out (by simp; omega) ?_; intro gg cap2 w8 hO8 hB8 hG8; rw [Hd.out, ← Hz.out, nz_length, Hol.out] at hO8; rw [nz_length, Hol.out])
          have hE8 : Ext w w8 := Below.trans (hE.alloc (.cells #[.int .i64 ((x : Int) - (bw : Int))] 3)) hB8
          have hO9 := Lib.hid hO8
          clear hG8 hB8 hO8
          go_wp2_with fail
          go_roundw
          case rel => exact ⟨i + 1, 0, o ++ [d], by omega, by go_num, by go_num, by omega, Hst, hO9, hE8⟩
          case measure => simp [intOf] <;> omega
    · have hie : i = la := by omega
      subst hie
      have hv : vP o = vP p - vP q := by
        obtain ⟨e1, e2, e3⟩ := Ho.out
        rw [List.take_of_length_le (by rw [← Hb.out]; exact l2), List.take_of_length_le (by rw [← Ha.out]; exact Nat.le_refl _)] at e3
        have e4 := vP_lt e2
        rw [e1] at e4
        have := Hle.out
        have hbw : bw = 0 := by
          rcases Nat.eq_zero_or_pos bw with h | h
          · exact h
          · have : bw = 1 := by omega
            subst this
            omega
        subst hbw
        omega
      have Hv := Lib.hid hv
      clear hv
      go_wp2_with fail
      go_ret
      exact ⟨_, rfl, ⟨o, Ho.out.2.1, Hv.out, by rw [Ho.out.1]; omega, hO.out⟩, hE⟩

end Go.Proofs.YthmhmkkcjlgbjaaGreatDoor
/- schismaref03: MulW -/
namespace Go.Proofs.YthmhmkkcjlgbjaaGreatDoor
open Go.RowKit Go.Sort
theorem mul_sgn (a b : Int) : sgn (decide (a < 0) != decide (b < 0)) (a.natAbs * b.natAbs) = a * b := by
  have h := Int.natAbs_mul a b
  rw [← h]
  unfold sgn
  rcases Int.lt_trichotomy a 0 with ha | ha | ha
  · rcases Int.lt_trichotomy b 0 with hb | hb | hb
    · have := Int.mul_pos_of_neg_of_neg ha hb
      simp [ha, hb]; omega
    · subst hb; simp
    · have := Int.mul_neg_of_neg_of_pos ha hb
      have h2 : ¬ b < 0 := by omega
      simp [ha, h2]; omega
  · subst ha; simp
  · rcases Int.lt_trichotomy b 0 with hb | hb | hb
    · have := Int.mul_neg_of_pos_of_neg ha hb
      have h2 : ¬ a < 0 := by omega
      simp [hb, h2]; omega
    · subst hb; simp
    · have := Int.mul_pos ha hb
      have h1 : ¬ a < 0 := by omega
      have h2 : ¬ b < 0 := by omega
      simp [h1, h2]; omega
theorem own3 (w : World) (T : TypeId) (a b c d e f : Value) : (((w.alloc (.cells #[a, b] T)).alloc (.cells #[c, d] T)).alloc (.cells #[e, f] T)).cell? ⟨w.heap.size, 0, none⟩ = some a ∧ (((w.alloc (.cells #[a, b] T)).alloc (.cells #[c, d] T)).alloc (.cells #[e, f] T)).cell? ⟨w.heap.size, 1, none⟩ = some b ∧
    (((w.alloc (.cells #[a, b] T)).alloc (.cells #[c, d] T)).alloc (.cells #[e, f] T)).cell? ⟨w.heap.size + 1, 0, none⟩ = some c ∧ (((w.alloc (.cells #[a, b] T)).alloc (.cells #[c, d] T)).alloc (.cells #[e, f] T)).cell? ⟨w.heap.size + 1, 1, none⟩ = some d ∧
    OwnV T w.heap.size (((w.alloc (.cells #[a, b] T)).alloc (.cells #[c, d] T)).alloc (.cells #[e, f] T)) (w.heap.size + 1 + 1) 2 [e, f] := by
  refine ⟨by go_simp, by go_simp, by go_simp, by go_simp, ?_⟩
  have := own_alloc ((w.alloc (.cells #[a, b] T)).alloc (.cells #[c, d] T)) T e f
  have e2 : ((w.alloc (.cells #[a, b] T)).alloc (.cells #[c, d] T)).heap.size = w.heap.size + 1 + 1 := by simp
  rw [e2] at this
  exact this.mono (by omega)
theorem nz_set (p : List Nat) (j d : Nat) : nz (p.set j d) = (nz p).set j (d : Int) := by simp [nz, List.map_set]
/-- Own digits. -/
def OwnD (B : Nat) (w : World) (g cap : Nat) (p : List Nat) : Prop := OwnV 3 B w g cap (is (nz p))
theorem OwnD.set {B : Nat} {w : World} {g cap : Nat} {p : List Nat} (h : OwnD B w g cap p) (j v : Nat) :
    OwnD B (w.setCell ⟨g, j, none⟩ (.int .i64 (v : Nat))) g cap (p.set j v) ∧ w.grownBy (w.setCell ⟨g, j, none⟩ (.int .i64 (v : Nat))) (some g) := by
  obtain ⟨h1, h2⟩ := OwnV.set h j (.int .i64 (v : Nat))
  refine ⟨?_, h2⟩
  unfold OwnD
  rw [nz_set, is_set]; exact h1
theorem OwnD.rowV {B : Nat} {w : World} {g cap n : Nat} {p : List Nat} (h : OwnD B w g cap p) (hn : p.length = n) : RowV B w (slv g n cap) (nz p) := by
  subst hn
  unfold OwnD OwnV at h
  rw [is_length, nz_length] at h
  unfold RowV; rw [nz_length]; exact h
theorem OwnD.cell {B : Nat} {w : World} {g cap : Nat} {p : List Nat} (h : OwnD B w g cap p) {j : Nat} (hj : j < p.length) : w.cell? ⟨g, j, none⟩ = some (.int .i64 (p[j] : Nat)) := by
  have := OwnV.cell h (j := j) (by simpa using hj)
  rw [this, ← List.getElem?_eq_getElem, nz_get hj]
set_option maxRecDepth 100000 in
set_option maxHeartbeats 4000000 in
theorem mulW_w {w : World} {va vb : Value} {a b : Int} (hA : WhR w va a) (hB : WhR w vb b) (l1 : (pc a.natAbs).length ≤ 400000000) (l2 : (pc b.natAbs).length ≤ 400000000) :
    Calls Tryz.prog 70 #[va, vb] w (WhPost w (a * b)) := by
  obtain ⟨da, rfl, hda⟩ := hA
  obtain ⟨db, rfl, hdb⟩ := hB
  obtain ⟨ga, b1, o1, c1, rfl, k1, h1⟩ := hda.open
  obtain ⟨gb, b2, o2, c2, rfl, k2, h2⟩ := hdb.open
  obtain ⟨i0, hi, hz0, hz1, hz2⟩ := info_parts Tryz.infoInt
  have Hs := Lib.hid (mul_sgn a b)
  obtain ⟨p, hp⟩ : ∃ p, p = pc a.natAbs := ⟨_, rfl⟩
  obtain ⟨q, hq⟩ : ∃ q, q = pc b.natAbs := ⟨_, rfl⟩
  have S1 := Lib.hid (pc_small a.natAbs)
  have S2 := Lib.hid (pc_small b.natAbs)
  have hpv := vP_pc a.natAbs
  have hqv := vP_pc b.natAbs
  rw [← hp] at h1 S1 l1 hpv ⊢
  rw [← hq] at h2 S2 l2 hqv ⊢
  rw [← hpv, ← hqv] at Hs
  obtain ⟨ba, hba⟩ : ∃ ba, ba = decide (a < 0) := ⟨_, rfl⟩
  obtain ⟨bb, hbb⟩ : ∃ bb, bb = decide (b < 0) := ⟨_, rfl⟩
  rw [← hba, ← hbb] at Hs
  rw [← hba, ← hbb]
  have H1 := Lib.hid h1
  have H2 := Lib.hid h2
  obtain ⟨la, hla⟩ : ∃ la, la = p.length := ⟨_, rfl⟩
  obtain ⟨lb, hlb⟩ : ∃ lb, lb = q.length := ⟨_, rfl⟩
  rw [← hla] at l1 ⊢
  rw [← hlb] at l2 ⊢
  have Ha := Lib.hid hla
  have Hb := Lib.hid hlb
  obtain ⟨f0, f1, f2, f3, hOr⟩ := own3 w 66 (.bool ba) (.slice ga la c1) (.bool bb) (.slice gb lb c2) (.bool false) (.slice none 0 0)
  have hEw := ((((Ext.refl w).alloc (.cells #[.bool ba, .slice ga la c1] 66)).alloc (.cells #[.bool bb, .slice gb lb c2] 66)).alloc (.cells #[.bool false, .slice none 0 0] 66))
  have HOr := Lib.hid hOr
  have F0 := Lib.hid f0
  have F1 := Lib.hid f1
  have F2 := Lib.hid f2
  have F3 := Lib.hid f3
  clear hda hdb k1 k2 h1 h2 hp hq hpv hqv hba hbb hla hlb hOr f0 f1 f2 f3
  go_enter Tryz.func70, Tryz.ntmps70
  obtain ⟨n, hn⟩ : ∃ n, n = la + lb + 1 := ⟨_, rfl⟩
  have Hn := Lib.hid hn
  clear hn
  go_wp2_with (at_make; refine wpList_make_full _ rfl _ _ 34 rfl _ 3 i0 (.int .i64 0) 1 Tryz.underlying34 hi hz0 hz1 .i64 .i64 _ _ n rfl rfl (by have := Hn.out; omega) (by have := Hn.out; omega) (by rw [hz2]; have := Hn.out; omega) (by have := Hn.out; unfold maxLen; omega) (Nat.le_refl _) ?_; intro w1 hown1 hgrow1)
  have hVs : (((w.alloc (.cells #[.bool ba, .slice ga la c1] 66)).alloc (.cells #[.bool bb, .slice gb lb c2] 66)).alloc (.cells #[.bool false, .slice none 0 0] 66)).heap.size = w.heap.size + 1 + 1 + 1 := by simp
  generalize (((w.alloc (.cells #[.bool ba, .slice ga la c1] 66)).alloc (.cells #[.bool bb, .slice gb lb c2] 66)).alloc (.cells #[.bool false, .slice none 0 0] 66)) = V at *
  have he1 := ext_grown hgrow1
  clear hgrow1
  obtain ⟨g, hg⟩ : ∃ g, g = w.heap.size + 1 + 1 + 1 := ⟨_, rfl⟩
  rw [hVs, ← hg] at hown1
  rw [← hg]
  have hO1 : OwnD g w1 g n (List.replicate n 0) := by
    have e : (madeCells (Value.int .i64 0).cells (n * 1)).toList = is (nz (List.replicate n 0)) := by
      rw [show (Value.int .i64 0).cells = #[.int .i64 0] from rfl, toList_madeCells_one, Nat.mul_one]; simp [is, nz]
    rw [e] at hown1
    unfold OwnD OwnV
    rw [is_length, nz_length, List.length_replicate]
    exact hown1
  clear hown1
  have hgw : w.heap.size + 1 + 1 < g := by omega
  have HgV := Lib.hid (hg.trans hVs.symm)
  clear hg hVs
  go_loopw [6] (fun idx wr => ∃ (i : Nat) (o : List Nat), i ≤ la ∧ idx = .int .i64 i ∧ Hid (o.length = n ∧ small9 o ∧ (vP o : Int) = vP (p.take i) * vP q ∧ ∀ j, i + lb ≤ j → ∀ h : j < o.length, o[j] = 0) ∧ Hid (OwnD g wr g n o) ∧ Ext V wr) (fun idx _ => la - (intOf idx).toNat)
  case atStart => exact ⟨0, List.replicate n 0, by omega, by go_num, Lib.hid ⟨by simp, fun d hd => by rw [List.mem_replicate] at hd; omega, by rw [vP_replicate]; simp [vP], fun j _ h => by simp⟩, Lib.hid hO1, he1⟩
  case round =>
    obtain ⟨i, o, hi9, rfl, Ho, hO, hE⟩ := hrel
    generalize wr = X at *
    have f0 := hE.cell F0.out
    have f1 := hE.cell F1.out
    have f2 := hE.cell F2.out
    have f3 := hE.cell F3.out
    clear hO1 he1
    by_cases hlt : i < la
    · have hil : (i : Int) < (la : Int) := by omega
      have hip : i < p.length := by rw [← Ha.out]; exact hlt
      obtain rfl := H1.out.addr (by simp; omega)
      obtain ⟨a0, ha0⟩ : ∃ a0, a0 = p[i] := ⟨_, rfl⟩
      have ha9 : a0 < 1000000000 := by rw [ha0]; exact small9_get S1.out hip
      have hb1 : b1 < w.heap.size := H1.out.lt (by simp; omega)
      have ca : X.cell? ⟨b1, o1 + i, none⟩ = some (.int .i64 (a0 : Nat)) := by rw [ha0]; exact (hEw.trans hE).cell (H1.out.cell i _ (nz_get hip))
      have Ca := Lib.hid ca
      have Ha0 := Lib.hid ha0
      clear ha0 ca
      go_wp2_with fail
      go_loopw [7, 8] (fun cy idx wr => ∃ (k c : Nat) (o' : List Nat), k ≤ lb + 1 ∧ (lb < k → c = 0) ∧ idx = .int .i64 k ∧ cy = .int .i64 c ∧ c < 1000000000 ∧ Hid (o'.length = n ∧ small9 o' ∧ (vP o' : Int) + c * (1000000000 ^ i * 1000000000 ^ k) = vP o + a0 * vP (q.take k) * 1000000000 ^ i ∧ ∀ j, i + max lb k ≤ j → ∀ h : j < o'.length, o'[j] = 0) ∧ Hid (OwnD g wr g n o') ∧ Ext V wr ∧ Hid (wr.cell? ⟨b1, o1 + i, none⟩ = some (.int .i64 (a0 : Nat)))) (fun _ idx _ => lb + 1 - (intOf idx).toNat)
      case atStart => exact ⟨0, 0, o, by omega, fun _ => rfl, by go_num, by go_num, by omega, Lib.hid ⟨Ho.out.1, Ho.out.2.1, by simp [vP], fun j hj => Ho.out.2.2.2 j (by omega)⟩, hO, hE, Ca⟩
      case round =>
        obtain ⟨k, c, o', hk9, hck, rfl, rfl, hc9, Ho', hO', hE', Ca'⟩ := hrel
        generalize wr = Y at *
        clear hO f0 f1 f2 f3
        have ca := Ca'.out
        have f0 := hE'.cell F0.out
        have f1 := hE'.cell F1.out
        have f2 := hE'.cell F2.out
        have f3 := hE'.cell F3.out
        by_cases hlk : k < lb
        · have hkq : k < q.length := by rw [← Hb.out]; exact hlk
          have hkl : (k : Int) < (lb : Int) := by omega
          obtain rfl := H2.out.addr (by simp; omega)
          obtain ⟨b0, hb0⟩ : ∃ b0, b0 = q[k] := ⟨_, rfl⟩
          have hb9 : b0 < 1000000000 := by rw [hb0]; exact small9_get S2.out hkq
          have cb : Y.cell? ⟨b2, o2 + k, none⟩ = some (.int .i64 (b0 : Nat)) := by rw [hb0]; exact (hEw.trans hE').cell (H2.out.cell k _ (nz_get hkq))
          have hikn : i + k < n := by have := Hn.out; omega
          have hik : i + k < o'.length := by rw [Ho'.out.1]; exact hikn
          obtain ⟨x, hx⟩ : ∃ x, x = o'[i + k] := ⟨_, rfl⟩
          have hx9 : x < 1000000000 := by rw [hx]; exact small9_get Ho'.out.2.1 hik
          have cx : Y.cell? ⟨g, i + k, none⟩ = some (.int .i64 (x : Nat)) := by rw [hx]; exact hO'.out.cell hik
          have hab := mul_le_B ha9 hb9
          obtain ⟨ab, hab'⟩ : ∃ ab, ab = a0 * b0 := ⟨_, rfl⟩
          have habz : (a0 : Int) * (b0 : Int) = (ab : Int) := by rw [hab']; rfl
          rw [← hab'] at hab
          obtain ⟨d, hd⟩ : ∃ d, d = (c + x + ab) % 1000000000 := ⟨_, rfl⟩
          obtain ⟨c', hc'⟩ : ∃ c', c' = (c + x + ab) / 1000000000 := ⟨_, rfl⟩
          have hd9 : d < 1000000000 := by omega
          have hc'9 : c' < 1000000000 := by omega
          have Hst : Hid ((o'.set (i + k) d).length = n ∧ small9 (o'.set (i + k) d) ∧ (vP (o'.set (i + k) d) : Int) + c' * (1000000000 ^ i * 1000000000 ^ (k + 1)) = vP o + a0 * vP (q.take (k + 1)) * 1000000000 ^ i ∧ ∀ j, i + max lb (k + 1) ≤ j → ∀ h : j < (o'.set (i + k) d).length, (o'.set (i + k) d)[j] = 0) := by
            refine ⟨by rw [List.length_set]; exact Ho'.out.1, small9_set Ho'.out.2.1 _ hd9, ?_, fun j hj h => ?_⟩
            · rw [vP_set _ _ _ hik, vP_take_succ q k hkq, ← hx, ← hb0, Int.pow_add, Int.pow_succ (1000000000 : Int) k]
              have := times_step (o := x) (b := b0) Ho'.out.2.2.1
              rw [habz] at this
              rw [show (d : Int) = ((c : Int) + (x + ab)) % 1000000000 by omega, show (c' : Int) = ((c : Int) + (x + ab)) / 1000000000 by omega]
              exact this
            · rw [List.getElem_set_ne (by omega)]
              exact Ho'.out.2.2.2 j (by omega) (by simpa using h)
          have hcz : ((c : Int) + (x : Int) + (ab : Int)) % 1000000000 = (d : Int) := by omega
          have hcy : ((c : Int) + (x : Int) + (ab : Int)) / 1000000000 = (c' : Int) := by omega
          have hcap := OwnV.cap hO'.out
          have k0 := cell_regrown f0
          have k1 := cell_regrown f1
          have k2 := cell_regrown f2
          have k3 := cell_regrown f3
          have k4 := cell_regrown ca
          have k5 := cell_regrown cb
          clear hx hb0 hab' hd hc' hkq hik hck hcap
          go_wp2_with fail
          refine wp_region_quiet_below (by kernel_rfl) (by kernel_rfl) ?_
          repeat (quiet_step (fail))
          refine wpQuiet_nil ?_
          intro _ hw'
          obtain ⟨⟨dq, osq⟩, hw''⟩ := hw'
          subst hw''
          have hE6 := ext_regrown Y dq osq
          have hVE := hE'.trans hE6
          have hO6 := hO'.out.ext hE6
          have hc6 := Lib.hid (hE6.cell ca)
          clear k0 k1 k2 k3 k4 k5
          generalize hW6 : grow (redrawn _ _) _ = W6 at *
          clear hW6 hE6
          have hfr := OwnV.frozen hO6 (i + k)
          have hcl := OwnD.cell hO6 (j := i + k) (by rw [Ho'.out.1]; exact hikn)
          obtain ⟨hO7, hG7⟩ := OwnD.set hO6 (i + k) d
          have HO7 := Lib.hid hO7
          have hE7 := Lib.hid (ext_trans_grown hVE hG7 (by rw [HgV.out]; exact Nat.le_refl _))
          have hc7 := Lib.hid (grown_frozen_cell hG7 (by omega) hc6.out)
          clear hO7 hG7 hO6 f0 f1 f2 f3 ca cb cx hc6
          go_wp2_with fail
          go_roundw
          case rel => exact ⟨k + 1, c', _, by omega, fun h => by omega, by go_num, by go_num, hc'9, Hst, HO7, hE7.out, hc7⟩
          case measure => simp [intOf] <;> omega
        · have hkn : ¬ (k : Int) < (lb : Int) := by omega
          have hkd : decide (k < lb) = false := decide_eq_false hlk
          rcases Nat.eq_zero_or_pos c with hc0 | hc0
          · subst hc0
            have Hst : Hid (o'.length = n ∧ small9 o' ∧ (vP o' : Int) = vP (p.take (i + 1)) * vP q ∧ ∀ j, i + 1 + lb ≤ j → ∀ h : j < o'.length, o'[j] = 0) := by
              obtain ⟨e1, e2, e3, e4⟩ := Ho'.out
              obtain ⟨_, _, e5, _⟩ := Ho.out
              refine ⟨e1, e2, ?_, fun j hj h => e4 j (by omega) h⟩
              rw [List.take_of_length_le (by rw [← Hb.out]; omega)] at e3
              rw [vP_take_succ p i (by rw [← Ha.out]; exact hlt), ← Ha0.out]
              generalize (1000000000 : Int) ^ i = P at *
              generalize (1000000000 : Int) ^ k = K at *
              generalize (vP o' : Int) = Z at *
              generalize (vP o : Int) = Z2 at *
              grind
            clear Ho Ho' ca Ca'
            go_wp2_with fail
            go_roundw
            case rel => exact ⟨i + 1, o', by omega, by go_num, Hst, hO', hE'⟩
            case measure => simp [intOf] <;> omega
          · obtain rfl : k = lb := by
              rcases Nat.lt_or_ge lb k with h | h
              · have := hck h; omega
              · omega
            have hci : (0 : Int) < (c : Int) := by omega
            have hcb : ((c : Int) > 0) := by omega
            have hikn : i + k < n := by have := Hn.out; omega
            have hik : i + k < o'.length := by rw [Ho'.out.1]; exact hikn
            have hz0 := Ho'.out.2.2.2 (i + k) (by omega) hik
            have cx : Y.cell? ⟨g, i + k, none⟩ = some (.int .i64 0) := by rw [OwnD.cell hO'.out hik, hz0]; rfl
            have hcm : (c : Int) % 1000000000 = (c : Int) := by omega
            have hcd : (c : Int) / 1000000000 = 0 := by omega
            have Hst : Hid ((o'.set (i + k) c).length = n ∧ small9 (o'.set (i + k) c) ∧ (vP (o'.set (i + k) c) : Int) + (0 : Nat) * (1000000000 ^ i * 1000000000 ^ (k + 1)) = vP o + a0 * vP (q.take (k + 1)) * 1000000000 ^ i ∧ ∀ j, i + max k (k + 1) ≤ j → ∀ h : j < (o'.set (i + k) c).length, (o'.set (i + k) c)[j] = 0) := by
              obtain ⟨e1, e2, e3, e4⟩ := Ho'.out
              refine ⟨by rw [List.length_set]; exact e1, small9_set e2 _ hc9, ?_, fun j hj h => ?_⟩
              · rw [vP_set _ _ _ hik, hz0, Int.pow_add]
                rw [List.take_of_length_le (by rw [← Hb.out]; exact Nat.le_refl _)] at e3
                rw [List.take_of_length_le (by rw [← Hb.out]; omega)]
                generalize (1000000000 : Int) ^ i = P at *
                generalize (1000000000 : Int) ^ k = K at *
                generalize (vP o' : Int) = Z at *
                generalize (vP o : Int) = Z2 at *
                grind
              · rw [List.getElem_set_ne (by omega)]
                exact e4 j (by omega) (by simpa using h)
            have hfr := OwnV.frozen hO'.out (i + k)
            obtain ⟨hO7, hG7⟩ := OwnD.set hO'.out (i + k) c
            have HO7 := Lib.hid hO7
            have hE7 := Lib.hid (ext_trans_grown hE' hG7 (by rw [HgV.out]; exact Nat.le_refl _))
            have hc7 := Lib.hid (grown_frozen_cell hG7 (by omega) Ca'.out)
            clear hO7 hG7 hz0 hik hck ca Ca'
            go_wp2_with fail
            go_roundw
            case rel => exact ⟨k + 1, 0, _, by omega, fun _ => rfl, by go_num, by go_num, by omega, Hst, HO7, hE7.out, hc7⟩
            case measure => simp [intOf] <;> omega
    · have hie : i = la := by omega
      subst hie
      have hv : vP o = vP p * vP q := by
        have := Ho.out.2.2.1
        rw [List.take_of_length_le (by rw [← Ha.out]; exact Nat.le_refl _)] at this
        exact_mod_cast this
      have hsl := OwnV.sl hO.out
      have ht := trim_w (b := (ba != bb)) (sa := some ⟨g, 0, none⟩) (cap := n) hsl (by rw [Ho.out.1]; exact (OwnD.rowV hO.out Ho.out.1).ty) (by rw [Ho.out.1]; exact Nat.le_refl _) (by rw [Ho.out.1]; have := Hn.out; omega) Ho.out.2.1
      rw [hv, Hs.out, Ho.out.1] at ht
      have Ht := Lib.hid ht
      clear ht hsl hv
      go_wp2_with fail
      refine Ht.out.mono ?_
      rintro e w5 ⟨v, rfl, hv, hE5⟩
      obtain ⟨dv, rfl, hdv⟩ := hv
      have hVE := hE.trans hE5
      have hOr := HOr.out.ext hVE
      obtain ⟨sv, bv, ov, cv, rfl, kv, hSv⟩ := hdv.open
      have HSv := Lib.hid hdv
      have q0 := hOr.cell (j := 0) (by simp)
      have q1 := hOr.cell (j := 1) (by simp)
      have q2 := hOr.frozen 0
      have q3 := hOr.frozen 1
      obtain ⟨hR, hGR⟩ := res_set hOr (.bool (decide (a * b < 0))) (.slice sv (pc (a * b).natAbs).length cv)
      obtain ⟨r0, r1⟩ := res_get hR
      have hER := Lib.hid (ext_trans_grown (hEw.trans hVE) hGR (by omega))
      have HdR := Lib.hid (show DgR _ _ _ from dig_kept hOr hGR HSv.out)
      clear hR hGR Ht hdv hSv hOr
      go_wp2_with fail
      refine bodyPost_ret (v := .agg #[.bool (decide (a * b < 0)), .slice sv (pc (a * b).natAbs).length cv]) (by simp [results, Tryz.results70, go_sem, r0, r1]) rfl ⟨_, rfl, ⟨_, rfl, HdR.out⟩, hER.out⟩
end Go.Proofs.YthmhmkkcjlgbjaaGreatDoor
