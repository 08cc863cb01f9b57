/- Part 24 of the proof of the claim: contracts of the functions that it reaches, and plain laws; no condition. -/
import Derived.Test.YthmhmkkcjlgbjaaGreatDoorV23
import Derived.Deep.MidRow
/- schismaref03: FloorW -/
namespace Go.Proofs.YthmhmkkcjlgbjaaGreatDoor
open Go.RowKit Go.Sort
theorem floor_uni {a b q r : Int} (hb : 0 < b) (h : r + b * q = a) (h0 : 0 ≤ r) (h1 : r < b) : a.fdiv b = q ∧ a.fmod b = r := by
  rw [Int.fdiv_eq_ediv_of_nonneg _ (by omega), Int.fmod_eq_emod_of_nonneg _ (by omega)]
  exact (Int.ediv_emod_unique hb).2 ⟨h, h0, h1⟩
theorem floor_facts {a b : Int} (hb : 0 < b) :
    (¬ sgn (decide (a < 0)) (a.natAbs % b.natAbs) < 0 → a.fdiv b = sgn (decide (a < 0)) (a.natAbs / b.natAbs) ∧ a.fmod b = sgn (decide (a < 0)) (a.natAbs % b.natAbs)) ∧
      (sgn (decide (a < 0)) (a.natAbs % b.natAbs) < 0 → a.fdiv b = sgn (decide (a < 0)) (a.natAbs / b.natAbs) - 1 ∧ a.fmod b = sgn (decide (a < 0)) (a.natAbs % b.natAbs) + b) := by
  obtain ⟨v, rfl⟩ : ∃ v : Nat, b = (v : Int) := ⟨b.toNat, by omega⟩
  rw [Int.natAbs_natCast]
  have h1 := Nat.div_add_mod a.natAbs v
  have h2 := Nat.mod_lt a.natAbs (show v > 0 by omega)
  generalize a.natAbs / v = x at *
  generalize a.natAbs % v = y at *
  have h3 : ((v * x : Nat) : Int) = (v : Int) * (x : Int) := Int.natCast_mul v x
  unfold sgn
  by_cases ha : a < 0
  · rw [decide_eq_true ha, if_pos rfl, if_pos rfl]
    constructor
    · intro h
      refine floor_uni hb ?_ (by omega) (by omega)
      rw [Int.mul_neg, ← h3]; omega
    · intro h
      refine floor_uni hb ?_ (by omega) (by omega)
      rw [Int.mul_sub, Int.mul_neg, ← h3]; omega
  · rw [decide_eq_false ha, if_neg (by decide), if_neg (by decide)]
    constructor
    · intro h
      refine floor_uni hb ?_ (by omega) (by omega)
      rw [← h3]; omega
    · intro h; omega
theorem own4 (w : World) (T : TypeId) (a b c d e f g h : Value) : ((((w.alloc (.cells #[a, b] T)).alloc (.cells #[c, d] T)).alloc (.cells #[e, f] T)).alloc (.cells #[g, h] T)).cell? ⟨w.heap.size, 0, none⟩ = some a ∧ ((((w.alloc (.cells #[a, b] T)).alloc (.cells #[c, d] T)).alloc (.cells #[e, f] T)).alloc (.cells #[g, h] T)).cell? ⟨w.heap.size, 1, none⟩ = some b ∧
    ((((w.alloc (.cells #[a, b] T)).alloc (.cells #[c, d] T)).alloc (.cells #[e, f] T)).alloc (.cells #[g, h] T)).cell? ⟨w.heap.size + 1, 0, none⟩ = some c ∧ ((((w.alloc (.cells #[a, b] T)).alloc (.cells #[c, d] T)).alloc (.cells #[e, f] T)).alloc (.cells #[g, h] T)).cell? ⟨w.heap.size + 1, 1, none⟩ = some d ∧
    OwnV T w.heap.size ((((w.alloc (.cells #[a, b] T)).alloc (.cells #[c, d] T)).alloc (.cells #[e, f] T)).alloc (.cells #[g, h] T)) (w.heap.size + 1 + 1) 2 [e, f] ∧
    OwnV T w.heap.size ((((w.alloc (.cells #[a, b] T)).alloc (.cells #[c, d] T)).alloc (.cells #[e, f] T)).alloc (.cells #[g, h] T)) (w.heap.size + 1 + 1 + 1) 2 [g, h] := by
  obtain ⟨f0, f1, f2, f3, h4⟩ := own3 w T a b c d e f
  have hE := (Ext.refl (((w.alloc (.cells #[a, b] T)).alloc (.cells #[c, d] T)).alloc (.cells #[e, f] T))).alloc (.cells #[g, h] T)
  refine ⟨hE.cell f0, hE.cell f1, hE.cell f2, hE.cell f3, h4.ext hE, ?_⟩
  have := own_alloc (((w.alloc (.cells #[a, b] T)).alloc (.cells #[c, d] T)).alloc (.cells #[e, f] T)) T g h
  have e2 : (((w.alloc (.cells #[a, b] T)).alloc (.cells #[c, d] T)).alloc (.cells #[e, f] T)).heap.size = w.heap.size + 1 + 1 + 1 := by simp
  rw [e2] at this
  exact this.mono (by omega)
theorem range2 {w : World} {b : Nat} {x y : Value} (h0 : w.cell? ⟨b, 0, none⟩ = some x) (h1 : w.cell? ⟨b, 1, none⟩ = some y) : w.rangeAt b 0 [x, y] := fun j v hj => by
  match j with
  | 0 => simp at hj; subst hj; exact h0
  | 1 => simp at hj; subst hj; exact h1
  | j + 2 => simp at hj
def FlPost (w : World) (q r : Int) (e : Ending) (w' : World) : Prop := ∃ v1 v2, e = .returned (.tuple #[v1, v2]) ∧ WhR w' v1 q ∧ WhR w' v2 r ∧ Ext w w'
/-- trim of a number's own digits, by its value. -/
theorem trim_q {w : World} {b : Bool} {sa : Option Addr} {gb go cap u : Nat} (hS : Sl w sa gb go (is (nz (pc u)))) (hc : (pc u).length ≤ cap) (hl : (pc u).length ≤ 10000000000000) :
    Calls Tryz.prog 67 #[.agg #[.bool b, .slice sa (pc u).length cap]] w fun e w' => e = .returned (.agg #[.bool (b && decide ((pc u).length ≠ 0)), .slice sa (pc u).length cap]) ∧ Ext w w' := by
  have := trim_x (b := b) hS hc hl (pc_small u)
  rw [tl_pc (pc_small u), vP_pc] at this
  exact this
theorem whr_q {w : World} {b : Bool} {sa : Option Addr} {gb go cap u : Nat} (hS : Sl w sa gb go (is (nz (pc u)))) (hT : TyI w (.slice sa (pc u).length cap)) (hc : (pc u).length ≤ cap) : WhR w (.agg #[.bool (b && decide ((pc u).length ≠ 0)), .slice sa (pc u).length cap]) (sgn b u) := by
  have := whr_tl (b := b) hS hT hc (pc_small u)
  rw [tl_pc (pc_small u), vP_pc] at this
  exact this
/-- Two result cells that are stored. -/
theorem WhR.kept {B r n c : Nat} {w w' : World} {b : Bool} {s : Option Addr} (hO : OwnV 66 B w r 2 [.bool b, .slice s n c]) (hG : w.grownBy w' (some r)) {v : Value} {z : Int} (h : WhR w v z) : WhR w' v z := by
  obtain ⟨d, rfl, hd⟩ := h
  exact ⟨d, rfl, dig_kept hO hG hd⟩
structure Two (T : TypeId) (B : Nat) (w : World) (r4 r5 : Nat) (a b c d : Value) : Prop where
  o4 : OwnV T B w r4 2 [a, b]
  o5 : OwnV T B w r5 2 [c, d]
theorem Two.ext {T : TypeId} {B : Nat} {w w' : World} {r4 r5 : Nat} {a b c d : Value} (h : Two T B w r4 r5 a b c d) (he : Ext w w') : Two T B w' r4 r5 a b c d := ⟨h.o4.ext he, h.o5.ext he⟩
/-- The facts for the stores and loads of two result cells. -/
theorem Two.facts {T : TypeId} {B : Nat} {w : World} {r4 r5 : Nat} {a b c d : Value} (h : Two T B w r4 r5 a b c d) :
    (w.cell? ⟨r4, 0, none⟩ = some a ∧ w.cell? ⟨r4, 1, none⟩ = some b ∧ w.cell? ⟨r5, 0, none⟩ = some c ∧ w.cell? ⟨r5, 1, none⟩ = some d) ∧
      (w.frozen? ⟨r4, 0, none⟩ = false ∧ w.frozen? ⟨r4, 1, none⟩ = false ∧ w.frozen? ⟨r5, 0, none⟩ = false ∧ w.frozen? ⟨r5, 1, none⟩ = false) :=
  ⟨⟨h.o4.cell (j := 0) (by simp), h.o4.cell (j := 1) (by simp), h.o5.cell (j := 0) (by simp), h.o5.cell (j := 1) (by simp)⟩, ⟨h.o4.frozen 0, h.o4.frozen 1, h.o5.frozen 0, h.o5.frozen 1⟩⟩
/-- Both stored. -/
theorem Two.store {w w5 : World} {r4 r5 n4 c4 n5 c5 : Nat} {b4 b5 : Bool} {s4 s5 : Option Addr} (hE : Ext w w5) (h : Two 66 w.heap.size w5 r4 r5 (.bool b4) (.slice s4 n4 c4) (.bool b5) (.slice s5 n5 c5)) (hne : r4 ≠ r5) (x4 y4 x5 y5 : Value) :
    Two 66 w.heap.size ((((w5.setCell ⟨r4, 0, none⟩ x4).setCell ⟨r4, 1, none⟩ y4).setCell ⟨r5, 0, none⟩ x5).setCell ⟨r5, 1, none⟩ y5) r4 r5 x4 y4 x5 y5 ∧
      (∀ v z, WhR w5 v z → WhR ((((w5.setCell ⟨r4, 0, none⟩ x4).setCell ⟨r4, 1, none⟩ y4).setCell ⟨r5, 0, none⟩ x5).setCell ⟨r5, 1, none⟩ y5) v z) ∧
      (∀ g o v, g ≠ r4 → g ≠ r5 → w5.cell? ⟨g, o, none⟩ = some v → ((((w5.setCell ⟨r4, 0, none⟩ x4).setCell ⟨r4, 1, none⟩ y4).setCell ⟨r5, 0, none⟩ x5).setCell ⟨r5, 1, none⟩ y5).cell? ⟨g, o, none⟩ = some v) ∧
      Ext w ((((w5.setCell ⟨r4, 0, none⟩ x4).setCell ⟨r4, 1, none⟩ y4).setCell ⟨r5, 0, none⟩ x5).setCell ⟨r5, 1, none⟩ y5) := by
  obtain ⟨hR4, hG4⟩ := res_set h.o4 x4 y4
  have h5 := h.o5.other hG4 (fun e => hne e.symm)
  obtain ⟨hR5, hG5⟩ := res_set h5 x5 y5
  exact ⟨⟨hR4.other hG5 hne, hR5⟩, fun v z hv => (hv.kept h.o4 hG4).kept h5 hG5, fun g o v n4 n5 hc => grown_frozen_cell hG5 n5 (grown_frozen_cell hG4 n4 hc), ext_trans_grown (ext_trans_grown hE hG4 h.o4.lt.1) hG5 h.o5.lt.1⟩
set_option maxRecDepth 100000 in
set_option maxHeartbeats 4000000 in
theorem floorW_w {w : World} {va vb : Value} {a b : Int} (hA : WhR w va a) (hB : WhR w vb b) (hb : 0 < b) (l1 : (pc a.natAbs).length ≤ 100000000) (l2 : (pc b.natAbs).length ≤ 100000000) (hL : Laid w) :
    Calls Tryz.prog 34 #[va, vb] w (FlPost w (a.fdiv b) (a.fmod b)) := by
  obtain ⟨da, rfl, hda⟩ := hA
  have HB := Lib.hid hB
  obtain ⟨db, rfl, hdb⟩ := hB
  obtain ⟨ga, la, c1, rfl⟩ := row_shape hda.row
  obtain ⟨gb, lb, c2, rfl⟩ := row_shape hdb.row
  have hfl := Lib.hid (floor_facts (a := a) hb)
  obtain ⟨ba, hba⟩ : ∃ ba, ba = decide (a < 0) := ⟨_, rfl⟩
  rw [← hba] at hfl
  rw [← hba]
  rw [show decide (b < 0) = false from decide_eq_false (by omega)] at HB ⊢
  obtain ⟨f0, f1, f2, f3, h4, h5⟩ := own4 w 66 (.bool ba) (.slice ga la c1) (.bool false) (.slice gb lb c2) (.bool false) (.slice none 0 0) (.bool false) (.slice none 0 0)
  have hEw := (((((Ext.refl w).alloc (.cells #[.bool ba, .slice ga la c1] 66)).alloc (.cells #[.bool false, .slice gb lb c2] 66)).alloc (.cells #[.bool false, .slice none 0 0] 66)).alloc (.cells #[.bool false, .slice none 0 0] 66))
  have hdv := Lib.hid (divide_w (hda.ext hEw) (hdb.ext hEw) (by omega) l1 l2)
  have H45 := Lib.hid (Two.mk h4 h5)
  obtain ⟨X, hX⟩ : ∃ X, X = a.natAbs / b.natAbs := ⟨_, rfl⟩
  obtain ⟨Y, hY⟩ : ∃ Y, Y = a.natAbs % b.natAbs := ⟨_, rfl⟩
  have hXl : (pc X).length ≤ 100000000 := by rw [hX]; exact Nat.le_trans (pc_mono (Nat.div_le_self _ _)) l1
  have hYl : (pc Y).length ≤ 100000000 := by rw [hY]; exact Nat.le_trans (pc_mono (Nat.mod_le _ _)) l1
  rw [← hX, ← hY] at hdv hfl
  have HL := Lib.hid (hL.ext hEw)
  have hEwL := Lib.hid hL
  clear hda hdb h4 h5 hba hX hY l1 hL
  go_enter Tryz.func34, Tryz.ntmps34
  go_wp2_with fail
  refine hdv.out.mono ?_
  rintro e V ⟨vx, vy, rfl, hx, hy, hEV⟩
  have hxT := hx.ty
  have hyT := hy.ty
  obtain ⟨sx, bx, ox, cx, rfl, kx, hSx⟩ := hx.open
  obtain ⟨sy, by', oy, cy, rfl, ky, hSy⟩ := hy.open
  have e0 := hEV.cell f0
  have hEwV := hEw.trans hEV
  have HTw := Lib.hid (H45.out.ext hEV)
  have HSx := Lib.hid hSx
  have HSy := Lib.hid hSy
  have t1 := Lib.hid (fun W (h : Ext V W) => trim_q (b := ba) (HSx.out.ext h) kx (by omega))
  have t2 := Lib.hid (fun W (h : Ext V W) => trim_q (b := ba) (HSy.out.ext h) ky (by omega))
  have Hq := Lib.hid (whr_q (b := ba) hSx hxT kx)
  have Hr := Lib.hid (whr_q (b := ba) hSy hyT ky)
  have HBV := Lib.hid (HB.out.ext hEwV)
  have HLV := Lib.hid (HL.out.ext hEV)
  have s2 := hEV.cell f2
  have s3 := hEV.cell f3
  generalize (ba && decide ((pc X).length ≠ 0)) = bq at *
  generalize (ba && decide ((pc Y).length ≠ 0)) = br at *
  obtain ⟨nX, hnX⟩ : ∃ n, n = (pc X).length := ⟨_, rfl⟩
  obtain ⟨nY, hnY⟩ : ∃ n, n = (pc Y).length := ⟨_, rfl⟩
  rw [← hnX] at t1 Hq kx ⊢
  rw [← hnY] at t2 Hr ky ⊢
  have c1 := quietC (w := V) (fun W h => t1.out W h)
  have c2 := quietC (w := V) (fun W h => t2.out W h)
  have k0 := cell_regrown e0
  have k2 := cell_regrown s2
  clear hx hy hxT hyT hSx hSy hdv H45 HB HL hnX hnY f0 f1 f2 f3 t1 t2 kx ky
  obtain ⟨r5, hr5⟩ : ∃ r5, r5 = w.heap.size + 1 + 1 + 1 := ⟨_, rfl⟩
  obtain ⟨r4, hr4⟩ : ∃ r4, r4 = w.heap.size + 1 + 1 := ⟨_, rfl⟩
  rw [← hr5] at HTw ⊢
  rw [← hr4] at HTw ⊢
  have hne : r4 ≠ r5 := by omega
  have hn0 : r4 ≠ w.heap.size + 1 := by omega
  have hn1 : r5 ≠ w.heap.size + 1 := by omega
  clear hr4 hr5
  go_wp2_with fail
  refine wp_region_quiet_tail 10 (by kernel_rfl) (by kernel_rfl) ?_
  simp only [List.take_succ_cons, List.take_zero, List.drop_succ_cons, List.drop_zero]
  repeat (quiet_step (first | (with_reducible exact c1 _ _) | (with_reducible exact c2 _ _)))
  refine wpQuiet_nil ?_
  intro _ hw'
  obtain ⟨⟨dq, osq⟩, hw''⟩ := hw'
  subst hw''
  have hE5 := ext_regrown V dq osq
  clear c1 c2 k0 k2
  generalize grow (redrawn V dq) osq = W5 at *
  have HT5 := HTw.out.ext hE5
  obtain ⟨⟨q0, q1, q2, q3⟩, ⟨p0, p1, p2, p3⟩⟩ := HT5.facts
  obtain ⟨hT6, hw6, hc6, hE6⟩ := Two.store (hEwV.trans hE5) HT5 hne (.bool bq) (.slice sx nX cx) (.bool br) (.slice sy nY cy)
  obtain ⟨⟨u0, u1, u2, u3⟩, ⟨m0, m1, m2, m3⟩⟩ := hT6.facts
  have hq6 := Lib.hid (hw6 _ _ (Hq.out.ext hE5))
  have hr6 := Lib.hid (hw6 _ _ (Hr.out.ext hE5))
  have hb6 := Lib.hid (hw6 _ _ (HBV.out.ext hE5))
  have v2 := hc6 _ _ _ hn0.symm hn1.symm (hE5.cell s2)
  have v3 := hc6 _ _ _ hn0.symm hn1.symm (hE5.cell s3)
  have hT6 := Lib.hid hT6
  have hL6 := Lib.hid (hEwL.out.ext hE6)
  have hsg := Lib.hid (signW_w hr6.out)
  clear HT5 hw6 hc6 hEwV HTw Hq Hr HBV HLV s2 s3 hE5
  go_wp2_with fail
  generalize ((((W5.setCell ⟨r4, 0, none⟩ (.bool bq)).setCell ⟨r4, 1, none⟩ (.slice sx nX cx)).setCell ⟨r5, 0, none⟩ (.bool br)).setCell ⟨r5, 1, none⟩ (.slice sy nY cy)) = W6 at *
  clear q0 q1 q2 q3 p0 p1 p2 p3
  by_cases hneg : sgn ba Y < 0
  · have hfd := Lib.hid (hfl.out.2 hneg)
    have hcz : (sgn ba Y).sign < 0 := by rw [Int.sign_eq_neg_one_of_neg hneg]; decide
    generalize (sgn ba Y).sign = cz at *
    refine hsg.out.mono ?_
    rintro e W7 ⟨rfl, hE7⟩
    have hT7 := Lib.hid (hT6.out.ext hE7)
    have hq7 := Lib.hid (hq6.out.ext hE7)
    have hr7 := Lib.hid (hr6.out.ext hE7)
    have hb7 := Lib.hid (hb6.out.ext hE7)
    have hE67 := hE6.trans hE7
    have hL7 := Lib.hid (hL6.out.ext hE7)
    have x2 := hE7.cell v2
    have x3 := hE7.cell v3
    have hXl2 : (pc (sgn ba X).natAbs).length ≤ 100000000 := by rw [sgn_abs]; exact hXl
    have hYl2 : (pc (sgn ba Y).natAbs).length ≤ 100000000 := by rw [sgn_abs]; exact hYl
    have h1l : (pc (1 : Int).natAbs).length ≤ 100000000 := Nat.le_trans (pc_length_le (k := 1) (by decide)) (by omega)
    have hof := Lib.hid (fun W (hW : Ext W7 W) => of_w (n := 1) (by omega) (by omega) (hL7.out.ext hW))
    have had := Lib.hid (fun W (hW : Ext W7 W) => addW_w (hr7.out.ext hW) (hb7.out.ext hW) (by omega) (by omega))
    have hsb := Lib.hid (fun W (hW : Ext W7 W) (v : Value) (hv : WhR W v 1) => subW_w (hq7.out.ext hW) hv (by omega) (by omega))
    clear hsg u0 u1 u2 u3 m0 m1 m2 m3 v2 v3 hT6 hq6 hr6 hb6 hE6 hL6 hE7 hXl2 hYl2 h1l hneg
    have d7 : Ext W7 W7.drew := (Ext.refl W7).drew
    go_wp2_with fail
    refine wp_region_held_tail (S := fun W => Ext W7 W) 6 (by kernel_rfl) (by simp) ?_
    intro inv
    refine wpAnyLH_take (i := 0) (v := .agg #[.bool bq, .slice sx nX cx]) rfl (by kernel_rfl) (fun _ _ _ h => h) (yieldsIf_load_mid (by rfl) 66 _ rfl r4 0 rfl [.bool bq, .slice sx nX cx] _ (fun W hW => ?_) Tryz.underlying66 rfl (by kernel_rfl)) d7 inv ?_
    · exact range2 (hT7.out.ext hW).facts.1.1 (hT7.out.ext hW).facts.1.2.1
    intro inv
    refine wpAnyLH_take (i := 3) (v := .agg #[.bool br, .slice sy nY cy]) rfl (by kernel_rfl) (fun _ _ _ h => h) (yieldsIf_load_mid (by rfl) 66 _ rfl r5 0 rfl [.bool br, .slice sy nY cy] _ (fun W hW => ?_) Tryz.underlying66 rfl (by kernel_rfl)) d7 inv ?_
    · exact range2 (hT7.out.ext hW).facts.1.2.2.1 (hT7.out.ext hW).facts.1.2.2.2
    intro inv
    refine wpAnyLH_take (i := 4) (v := .agg #[.bool false, .slice gb lb c2]) rfl (by kernel_rfl) (fun _ _ _ h => h) (yieldsIf_load_mid (by rfl) 66 _ rfl (w.heap.size + 1) 0 rfl [.bool false, .slice gb lb c2] _ (fun W hW => ?_) Tryz.underlying66 rfl (by kernel_rfl)) d7 inv ?_
    · exact range2 (hW.cell x2) (hW.cell x3)
    intro inv
    refine wpAnyLH_one (i := 1) rfl (by kernel_rfl) (fun K hK => ?_)
    go_simp
    refine (hof.out _ d7).mono ?_
    rintro e WO ⟨vo, rfl, hvo, hEO⟩
    have dO : Ext W7 WO := d7.trans hEO
    have Hvo := Lib.hid hvo
    obtain ⟨bo, so, no, co, rfl⟩ := hvo.shape
    clear hvo
    refine hK _ _ dO ?_
    clear hK
    refine wpAnyLH_one (i := 2) rfl (by kernel_rfl) (fun K2 hK2 => ?_)
    go_simp
    refine (hsb.out _ dO _ Hvo.out).mono ?_
    rintro e WB ⟨vs, rfl, hvs, hEB⟩
    have dB : Ext W7 WB := dO.trans hEB
    have Hvs := Lib.hid hvs
    obtain ⟨bs', ss', ns', cs', rfl⟩ := hvs.shape
    clear hvs
    refine hK2 _ _ dB ?_
    clear hK2
    refine wpAnyLH_one (i := 5) rfl (by kernel_rfl) (fun K3 hK3 => ?_)
    go_simp
    refine (had.out _ dB).mono ?_
    rintro e WA ⟨va', rfl, hva', hEA⟩
    have dA : Ext W7 WA := dB.trans hEA
    have Hva := Lib.hid hva'
    have Hvs2 := Lib.hid (Hvs.out.ext hEA)
    obtain ⟨ba', sa', na', ca', rfl⟩ := hva'.shape
    clear hva'
    refine hK3 _ _ dA ?_
    clear hK3
    refine wpAnyLH_end (by kernel_rfl) ?_
    have hTA := hT7.out.ext dA
    obtain ⟨⟨qa0, qa1, qa2, qa3⟩, ⟨pa0, pa1, pa2, pa3⟩⟩ := hTA.facts
    obtain ⟨hTS, hwS, _, hES⟩ := Two.store (hE67.trans dA) hTA hne (.bool bs') (.slice ss' ns' cs') (.bool ba') (.slice sa' na' ca')
    have hqS := Lib.hid (hwS _ _ Hvs2.out)
    have hrS := Lib.hid (hwS _ _ Hva.out)
    have HTS := Lib.hid hTS
    have HES := Lib.hid hES
    clear hTA hTS hwS hES hof had hsb x2 x3 hb7
    go_wp2_with fail
    generalize ((((WA.setCell ⟨r4, 0, none⟩ (.bool bs')).setCell ⟨r4, 1, none⟩ (.slice ss' ns' cs')).setCell ⟨r5, 0, none⟩ (.bool ba')).setCell ⟨r5, 1, none⟩ (.slice sa' na' ca')) = WS at *
    clear qa0 qa1 qa2 qa3 pa0 pa1 pa2 pa3
    have hne2 := fun e : r5 = r4 => hne e.symm
    obtain ⟨⟨q0, q1, q2, q3⟩, ⟨p0, p1, p2, p3⟩⟩ := HTS.out.facts
    go_wp2_with fail
    go_region
    obtain ⟨hT10, hw10, _, hE10⟩ := Two.store HES.out HTS.out hne (.bool bs') (.slice ss' ns' cs') (.bool ba') (.slice sa' na' ca')
    obtain ⟨⟨u0, u1, u2, u3⟩, _⟩ := hT10.facts
    have hq10 := Lib.hid ((hw10 _ _ hqS.out).ext (Ext.refl _).drew)
    have hr10 := Lib.hid ((hw10 _ _ hrS.out).ext (Ext.refl _).drew)
    have HE10 := Lib.hid (hE10.trans (Ext.refl _).drew)
    clear hT10 hw10 hE10
    go_wp2_with fail
    refine bodyPost_ret (v := .tuple #[.agg #[.bool bs', .slice ss' ns' cs'], .agg #[.bool ba', .slice sa' na' ca']]) (by simp [results, Tryz.results34, go_sem, u0, u1, u2, u3]) rfl ?_
    exact ⟨_, _, rfl, by rw [hfd.out.1]; exact hq10.out, by rw [hfd.out.2]; exact hr10.out, HE10.out⟩
  · have hfd := Lib.hid (hfl.out.1 (by omega))
    have hcz : ¬ (sgn ba Y).sign < 0 := by
      rcases Int.lt_trichotomy (sgn ba Y) 0 with h | h | h
      · exact absurd h hneg
      · rw [h]; decide
      · rw [Int.sign_eq_one_of_pos h]; decide
    generalize (sgn ba Y).sign = cz at *
    refine hsg.out.mono ?_
    rintro e W7 ⟨rfl, hE7⟩
    have hT7 := Lib.hid (hT6.out.ext hE7)
    have hq7 := Lib.hid (hq6.out.ext hE7)
    have hr7 := Lib.hid (hr6.out.ext hE7)
    have hE67 := hE6.trans hE7
    clear hsg u0 u1 u2 u3 m0 m1 m2 m3 v2 v3 hT6 hq6 hr6 hb6 hE6 hL6 hE7 hneg
    have hne2 := fun e : r5 = r4 => hne e.symm
    obtain ⟨⟨q0, q1, q2, q3⟩, ⟨p0, p1, p2, p3⟩⟩ := hT7.out.facts
    go_wp2_with fail
    go_region
    obtain ⟨hT10, hw10, _, hE10⟩ := Two.store hE67 hT7.out hne (.bool bq) (.slice sx nX cx) (.bool br) (.slice sy nY cy)
    obtain ⟨⟨u0, u1, u2, u3⟩, _⟩ := hT10.facts
    have hq10 := Lib.hid ((hw10 _ _ hq7.out).ext (Ext.refl _).drew)
    have hr10 := Lib.hid ((hw10 _ _ hr7.out).ext (Ext.refl _).drew)
    have HE10 := Lib.hid (hE10.trans (Ext.refl _).drew)
    clear hT10 hw10 hE10
    go_wp2_with fail
    refine bodyPost_ret (v := .tuple #[.agg #[.bool bq, .slice sx nX cx], .agg #[.bool br, .slice sy nY cy]]) (by simp [results, Tryz.results34, go_sem, u0, u1, u2, u3]) rfl ?_
    exact ⟨_, _, rfl, by rw [hfd.out.1]; exact hq10.out, by rw [hfd.out.2]; exact hr10.out, HE10.out⟩
end Go.Proofs.YthmhmkkcjlgbjaaGreatDoor
/- schismaref03: From -/
namespace Go.Proofs.YthmhmkkcjlgbjaaGreatDoor
open Go.RowKit Go.Sort
theorem S_app (a b : List UInt8) : Value.string ((⟨a.toArray⟩ : ByteArray) ++ (⟨b.toArray⟩ : ByteArray)) = S (a ++ b) := by
  congr 1
theorem S_app3 (a b c : List UInt8) : Value.string (((⟨a.toArray⟩ : ByteArray) ++ (⟨b.toArray⟩ : ByteArray)) ++ (⟨c.toArray⟩ : ByteArray)) = S (a ++ b ++ c) := by
  rw [← S_app]; rfl
theorem repeat_48 : ∀ c, Lib.repeatL [48] c = List.replicate c 48
  | 0 => rfl
  | c + 1 => by rw [Lib.repeatL, repeat_48 c]; rfl
theorem digs_zero : ∀ k, digs k 0 = List.replicate k 48
  | 0 => rfl
  | k + 1 => by rw [digs, show 0 / 10 = 0 from rfl, digs_zero k]; rfl
/-- Nine digits of a piece. -/
theorem pad_nine {d : Nat} (h : d < 1000000000) : (digs 9 d).reverse = List.replicate (9 - Lib.nDigits d) 48 ++ Lib.decDigits d := by
  have hn : Lib.nDigits d ≤ 9 := nDigits_le (k := 9) (by simpa using h) (by omega)
  have h1 := digs_append (Lib.nDigits d) (9 - Lib.nDigits d) d
  rw [show Lib.nDigits d + (9 - Lib.nDigits d) = 9 by omega, Nat.div_eq_of_lt (Lib.lt_pow_nDigits d), digs_zero, ← dec_reverse] at h1
  rw [h1, List.reverse_append, List.reverse_reverse, List.reverse_replicate]
theorem text_step {u i : Nat} (h : i < (pc u).length) : (digs (9 * (i + 1)) u).reverse = (digs 9 (pc u)[i]).reverse ++ (digs (9 * i) u).reverse := by
  rw [show 9 * (i + 1) = 9 * i + 9 by omega, digs_append, List.reverse_append, ← ten9]
  congr 2
  refine digs_mod _ _ _ ?_
  rw [pc_get i u h]
  exact (Nat.mod_mod _ _).symm
theorem text_last {u i : Nat} (h : i + 1 = (pc u).length) : Lib.decDigits u = Lib.decDigits ((pc u)[i]'(by omega)) ++ (digs (9 * i) u).reverse := by
  have hi : i < (pc u).length := by omega
  have hlt := pc_lt u
  rw [← h, Nat.pow_succ] at hlt
  have hP : 0 < 1000000000 ^ i := Nat.pow_pos (by omega)
  have hd : (pc u)[i] = u / 1000000000 ^ i := by rw [pc_get i u hi, Nat.mod_eq_of_lt (Nat.div_lt_of_lt_mul hlt)]
  have hu : u ≠ 0 := fun e => by subst e; rw [pc_zero] at hi; cases hi
  have hge := pow_le_of_pc hu
  rw [← h, Nat.add_sub_cancel] at hge
  have hd0 : 0 < u / 1000000000 ^ i := Nat.div_pos hge hP
  have hnd : Lib.nDigits u = 9 * i + Lib.nDigits (u / 1000000000 ^ i) := by
    have h2 : u < 10 ^ (9 * i + Lib.nDigits (u / 1000000000 ^ i)) := by
      rw [Nat.pow_add, ← ten9]
      have h3 := Lib.lt_pow_nDigits (u / 1000000000 ^ i)
      exact Nat.lt_mul_of_div_lt h3 hP |> fun h => by rwa [Nat.mul_comm] at h
    have h4 := nDigits_le h2 (by have := Lib.nDigits_pos (u / 1000000000 ^ i); omega)
    refine Nat.le_antisymm h4 (Nat.le_of_not_lt fun hc => ?_)
    obtain ⟨m, hm⟩ : ∃ m, Lib.nDigits (u / 1000000000 ^ i) = m + 1 := ⟨Lib.nDigits (u / 1000000000 ^ i) - 1, by have := Lib.nDigits_pos (u / 1000000000 ^ i); omega⟩
    rw [hm] at hc
    have h5 : u < 10 ^ (9 * i + m) := lt_pow_of_nd (by omega)
    rw [Nat.pow_add, ← ten9] at h5
    have h6 : u / 1000000000 ^ i < 10 ^ m := Nat.div_lt_of_lt_mul h5
    rcases Nat.eq_zero_or_pos m with h0 | h0
    · subst h0; simp at h6; omega
    · have := nDigits_le h6 h0; omega
  have h7 := congrArg List.reverse (dec_reverse u)
  rw [List.reverse_reverse, hnd, digs_append, ← ten9, List.reverse_append, ← dec_reverse, List.reverse_reverse, ← hd] at h7
  exact h7
set_option maxRecDepth 100000 in
set_option maxHeartbeats 4000000 in
theorem from_w {w : World} {va : Value} {z : Int} (hA : WhR w va z) (hl : (pc z.natAbs).length ≤ 100000000) (hL : Laid w) :
    Calls Tryz.prog 36 #[va] w fun e w' => e = .returned (I z) ∧ Ext w w' := by
  obtain ⟨d, rfl, hd⟩ := hA
  obtain ⟨ga, b1, o1, c1, rfl, k1, h1⟩ := hd.open
  obtain ⟨bz, hbz⟩ : ∃ bz, bz = decide (z < 0) := ⟨_, rfl⟩
  rw [← hbz]
  obtain ⟨n, hn⟩ : ∃ n, n = (pc z.natAbs).length := ⟨_, rfl⟩
  rw [← hn] at hl ⊢
  have hEw := (Ext.refl w).alloc (.cells #[.bool bz, .slice ga n c1] 66)
  obtain ⟨f0, f1⟩ : (w.alloc (.cells #[.bool bz, .slice ga n c1] 66)).cell? ⟨w.heap.size, 0, none⟩ = some (.bool bz) ∧ (w.alloc (.cells #[.bool bz, .slice ga n c1] 66)).cell? ⟨w.heap.size, 1, none⟩ = some (.slice ga n c1) := ⟨by go_simp, by go_simp⟩
  have H1 := Lib.hid (h1.ext hEw)
  have Hn := Lib.hid hn
  have Hbz := Lib.hid hbz
  have HL := Lib.hid (hL.ext hEw)
  by_cases h0 : n = 0
  · have hz : z = 0 := by
      have := pc_nil.1 (List.eq_nil_of_length_eq_zero (hn.symm.trans h0)); omega
    subst h0
    have hI : I z = S [48] := by rw [hz]; unfold I; rw [itoa_zero]
    rw [hI]
    clear hd k1 h1 hn hbz hL hI hz
    go_enter Tryz.func36, Tryz.ntmps36
    go_wp2_with fail
    go_ret
    exact ⟨rfl, hEw⟩
  · have hnb : ((n : Int) == 0) = false := beq_eq_false_iff_ne.2 (by omega)
    clear hd k1 h1 hn hbz hL
    go_enter Tryz.func36, Tryz.ntmps36
    go_wp2_with fail
    generalize (w.alloc (.cells #[.bool bz, .slice ga n c1] 66)) = V at *
    go_loopw [3, 4] (fun sv idx wr => ∃ (i : Nat) (L : List UInt8), i ≤ n ∧ idx = .int .i64 i ∧ sv = S L ∧ Hid (L = if i < n then (digs (9 * i) z.natAbs).reverse else Lib.decDigits z.natAbs) ∧ L.length ≤ 900000000 ∧ Ext V wr) (fun _ idx _ => n - (intOf idx).toNat)
    case atStart => exact ⟨0, [], by omega, by go_num, rfl, Lib.hid (by rw [if_pos (by omega)]; rfl), by simp, Ext.refl _⟩
    case round =>
      obtain ⟨i, L, hi, rfl, rfl, hLL, hLl, hE⟩ := hrel
      generalize wr = X at *
      have e0 := hE.cell f0
      have e1 := hE.cell f1
      by_cases hlt : i < n
      · have hii : (i : Int) < (n : Int) := by omega
        have hip : i < (pc z.natAbs).length := by rw [← Hn.out]; exact hlt
        obtain rfl := H1.out.addr (by simp; omega)
        obtain ⟨d0, hd0⟩ : ∃ d0, d0 = (pc z.natAbs)[i] := ⟨_, rfl⟩
        have hd9 : d0 < 1000000000 := by rw [hd0]; exact small9_get (pc_small _) hip
        have cx : X.cell? ⟨b1, o1 + i, none⟩ = some (.int .i64 (d0 : Nat)) := by rw [hd0]; exact hE.cell (H1.out.cell i _ (nz_get hip))
        have hit := Lib.hid (Itoa_any (n := (d0 : Int)) (by omega) (by omega) (HL.out.ext hE))
        rw [show I (d0 : Int) = S (Lib.decDigits d0) by unfold I; rw [itoa_nat]] at hit
        rw [if_pos hlt] at hLL
        obtain ⟨A, hA⟩ : ∃ A, A = Lib.decDigits d0 := ⟨_, rfl⟩
        rw [← hA] at hit
        have hAl : A.length = Lib.nDigits d0 := by rw [hA, Lib.decDigits_length]
        have hA9 : A.length ≤ 9 := by rw [hAl]; exact nDigits_le (k := 9) (by simpa using hd9) (by omega)
        by_cases hlast : i + 1 < n
        · have hli : (i : Int) + 1 < (n : Int) := by omega
          have hst := text_step hip
          rw [← hd0, pad_nine hd9, ← hAl, ← hA, ← hLL.out] at hst
          obtain ⟨c, hc⟩ : ∃ c, c = 9 - A.length := ⟨_, rfl⟩
          rw [← hc] at hst
          obtain ⟨Z, hZ⟩ : ∃ Z, Z = List.replicate c (48 : UInt8) := ⟨_, rfl⟩
          have hZl : Z.length = c := by rw [hZ, List.length_replicate]
          rw [← hZ] at hst
          have HZ := Lib.hid hZ
          have hs1 : ¬ 9223372036854775807 < Z.length + A.length := by omega
          have hs2 : ¬ 9223372036854775807 < Z.length + A.length + L.length := by omega
          have hcI : 9 - (A.length : Int) = (c : Int) := by omega
          have hrp := Lib.hid (fun W => Tryz.strings_Repeat ⟨#[48]⟩ c W (by omega) (by show 1 * c ≤ _; omega))
          have Hst := Lib.hid hst
          have hnl : (Z ++ A ++ L).length ≤ 900000000 := by
            rw [← hst, List.length_reverse, digs_length]; omega
          have Hnl := Lib.hid hnl
          clear hd0 hAl hA hst hc hip hnl hZ hZl
          go_wp2_with fail
          refine hit.out.mono ?_
          rintro e W1 ⟨rfl, hE1⟩
          have e2 := hE1.cell e1
          go_wp2_with fail
          refine (hrp.out _).mono ?_
          rintro e W2 ⟨rfl, hB2⟩
          have hE2 : Ext W1 W2 := hB2
          have hrs : Value.string ⟨(Lib.repeatL (⟨#[48]⟩ : ByteArray).data.toList c).toArray⟩ = S Z := by
            rw [show (⟨#[48]⟩ : ByteArray).data.toList = [48] from rfl, repeat_48, HZ.out]
          rw [hrs]
          have hE3 := hE.trans (hE1.trans hE2)
          clear hrs hB2 hit hrp hcI
          go_wp2_with fail
          go_roundw
          case rel => exact ⟨i + 1, Z ++ A ++ L, by omega, by go_num, S_app3 _ _ _, Lib.hid (by rw [if_pos hlast]; exact Hst.out.symm), Hnl.out, hE3⟩
          case measure => simp [intOf] <;> omega
        · have hli : ¬ (i : Int) + 1 < (n : Int) := by omega
          have hlid : decide ((i : Int) + 1 < (n : Int)) = false := decide_eq_false hli
          have hst := text_last (u := z.natAbs) (i := i) (by rw [← Hn.out]; omega)
          rw [← hd0, ← hA, ← hLL.out] at hst
          have Hst := Lib.hid hst
          have hnl : (A ++ L).length ≤ 900000000 := by
            rw [List.length_append, hLL.out, List.length_reverse, digs_length]; omega
          have Hnl := Lib.hid hnl
          clear hd0 hAl hA hst hip hnl
          go_wp2_with fail
          refine hit.out.mono ?_
          rintro e W1 ⟨rfl, hE1⟩
          have e2 := hE1.cell e1
          have hE3 := hE.trans hE1
          clear hit
          go_wp2_with fail
          go_roundw
          case rel => exact ⟨i + 1, A ++ L, by omega, by go_num, S_app _ _, Lib.hid (by rw [if_neg hlast]; exact Hst.out.symm), Hnl.out, hE3⟩
          case measure => simp [intOf] <;> omega
      · have hnlt : ¬ (i : Int) < (n : Int) := by omega
        rw [if_neg hlt] at hLL
        have hEX := hEw.trans hE
        cases bz
        · have hI : I z = S L := by
            have := of_decide_eq_false Hbz.out.symm
            unfold I; rw [itoa_pos (by omega), hLL.out]
          have HI := Lib.hid hI
          clear hI
          go_wp2_with fail
          go_ret
          exact ⟨by rw [HI.out]; rfl, hEX⟩
        · have hI : I z = S ([45] ++ L) := by
            have := of_decide_eq_true Hbz.out.symm
            unfold I; rw [itoa_neg this, hLL.out]; rfl
          have HI := Lib.hid hI
          clear hI
          go_wp2_with fail
          go_ret
          exact ⟨by rw [HI.out, ← S_app]; rfl, hEX⟩
end Go.Proofs.YthmhmkkcjlgbjaaGreatDoor
/- schismaref02: Small -/
namespace Go.Proofs.YthmhmkkcjlgbjaaGreatDoor
open Go.RowKit Go.Sort
def SmPost (z : Int) (w : World) (e : Ending) (w' : World) : Prop := e = .returned (.tuple #[.int .i64 (if inI64 z then z else 0), .bool (inI64 z)]) ∧ Ext w w'
theorem valB_pre (l : List UInt8) (k : Nat) : valB 0 (l.take k) ≤ valB 0 l := by
  have h := valB_append 0 (l.take k) (l.drop k)
  rw [List.take_append_drop] at h
  rw [h]
  exact valB_ge _ _
theorem take_step8 {l : List UInt8} (hdg : ∀ c ∈ l, isDig c) {k : Nat} (h : k < l.length) : ∃ b d : Nat, l[k].toNat = b ∧ d ≤ 9 ∧ b = 48 + d ∧ valB 0 (l.take (k + 1)) = 10 * valB 0 (l.take k) + d := by
  have hd := hdg l[k] (List.getElem_mem h)
  obtain ⟨_, e2, e3⟩ := dv_eq hd
  refine ⟨_, dv l[k], rfl, by omega, e2, ?_⟩
  rw [List.take_succ_eq_append_getElem h, valB_append, valB_cons, valB_nil]
set_option maxRecDepth 100000 in
set_option maxHeartbeats 4000000 in
theorem small_w {z : Int} (hn : nd z ≤ 1000000000) (w : World) : Calls Tryz.prog 73 #[I z] w (SmPost z w) := by
  obtain ⟨l, hl⟩ : ∃ l, l = Lib.decDigits z.natAbs := ⟨_, rfl⟩
  have hll : l.length ≤ 1000000000 := by rw [hl, Lib.decDigits_length]; exact hn
  have hdg : ∀ c ∈ l, isDig c := by rw [hl]; exact dec_dig _
  have hl0 : 0 < l.length := by rw [hl, Lib.decDigits_length]; exact Lib.nDigits_pos _
  have hv : valB 0 l = z.natAbs := by rw [hl, valB_dec]
  by_cases hz : z < 0
  · have hI : I z = S (45 :: l) := by unfold I; rw [itoa_neg hz, ← hl]
    rw [hI]
    obtain ⟨T, hTe⟩ : ∃ T, T = 45 :: l := ⟨_, rfl⟩
    rw [← hTe]
    have hlen : T.length = l.length + 1 := by rw [hTe]; rfl
    have h0T : 0 < T.toArray.size := by rw [List.size_toArray]; omega
    have hstep : ∀ j, 1 ≤ j → ∀ h : j < T.length, ∃ b d : Nat, T[j].toNat = b ∧ d ≤ 9 ∧ b = 48 + d ∧ valB 0 (l.take (j + 1 - 1)) = 10 * valB 0 (l.take (j - 1)) + d := fun j h1 h => by
      subst hTe
      obtain ⟨k, rfl⟩ : ∃ k, j = k + 1 := ⟨j - 1, by omega⟩
      exact take_step8 hdg (by simpa using h)
    have hb0 : (((⟨T.toArray⟩ : ByteArray)[0]'h0T).toNat : Int) = 45 := by subst hTe; rfl
    have hlb : ((1 : Int) == (T.length : Int)) = false := beq_eq_false_iff_ne.2 (by omega)
    have hlp : (0 : Int) < (T.length : Int) := by omega
    have hT1 : 1 ≤ T.length := by omega
    have hTll : T.length ≤ 1000000001 := by omega
    have HTl := Lib.hid hlen
    have Hstep := Lib.hid hstep
    have Hv := Lib.hid hv
    clear hdg hl hI hv hlen hstep hll hl0 hTe
    go_enter Tryz.func73, Tryz.ntmps73
    go_wp2_with fail
    go_loop [5, 7] (fun iv nv => ∃ j m : Nat, 1 ≤ j ∧ j ≤ T.length ∧ iv = .int .i64 j ∧ nv = .int .i64 (-(m : Int)) ∧ Hid (m = valB 0 (l.take (j - 1))) ∧ m ≤ 9223372036854775808) (fun iv _ => T.length - (intOf iv).toNat)
    case atStart => exact ⟨1, 0, by omega, by omega, by go_num, by go_num, Lib.hid (by simp [valB_nil]), by omega⟩
    case round =>
      obtain ⟨j, m, hj0, hj1, rfl, rfl, hm, hm63⟩ := hrel
      by_cases hlt : j < T.length
      · have hji : (j : Int) < (T.length : Int) := by omega
        obtain ⟨b, d, hb1, hb2, hbd, hst⟩ := Hstep.out j hj0 hlt
        have hd9 : d ≤ 9 := hb2
        have hcI : (((({ data := T.toArray } : ByteArray)[j]'(by show j < T.toArray.size; rw [List.size_toArray]; exact hlt)).toNat : Nat) : Int) = (b : Int) := by
          have := hb1
          rw [← this]; rfl
        have hdI : (b : Int) - 48 = (d : Int) := by omega
        obtain ⟨q, hq⟩ : ∃ q, q = (9223372036854775808 - d) / 10 := ⟨_, rfl⟩
        have hqI : ((-9223372036854775808 : Int) + (d : Int)).tdiv 10 = -(q : Int) := by
          have h1 : (-9223372036854775808 : Int) + (d : Int) = -((9223372036854775808 - d : Nat) : Int) := by omega
          rw [h1, Int.neg_tdiv, Int.tdiv_eq_ediv_of_nonneg (by omega), hq]; omega
        have hq9 : (q : Int) ≤ 922337203685477580 := by omega
        have hq8 : (-922337203685477580 : Int) ≤ -(q : Int) := by omega
        have hd1 : ¬ (9 : Int) < (d : Int) := by omega
        have hd0 : ¬ (d : Int) < 0 := by omega
        have hd00 : decide ((d : Int) < 0) = false := decide_eq_false hd0
        have hb3 : (48 : Int) ≤ (b : Int) := by omega
        have hb4 : (b : Int) ≤ 57 := by omega
        have hst2 : valB 0 (l.take (j + 1 - 1)) = 10 * m + d := by rw [hst, ← hm.out]
        by_cases hov : q < m
        · have hovi : -(m : Int) < -(q : Int) := by omega
          have hno : inI64 z = false := by
            have h1 := valB_pre l (j + 1 - 1)
            rw [hst2, Hv.out] at h1
            unfold inI64
            exact decide_eq_false (by omega)
          have Hno := Lib.hid hno
          clear hno hst hst2 hq hm hb1 hbd
          go_wp2_with fail
          go_ret2
          exact ⟨by rw [Hno.out]; rfl, Ext.refl _⟩
        · have hovi : ¬ -(m : Int) < -(q : Int) := by omega
          have hm2 : 10 * m + d ≤ 9223372036854775808 := by omega
          have Hm2 := Lib.hid (hst2.symm)
          have hlo : (-9223372036854775808 : Int) ≤ -(m : Int) * 10 - (d : Int) := by omega
          have hmv : -(m : Int) * 10 - (d : Int) = -((10 * m + d : Nat) : Int) := by omega
          have Hmv := Lib.hid hmv
          clear hst hst2 hq hm hb1 hmv hbd
          go_wp2_with fail
          go_round
          case rel => exact ⟨j + 1, 10 * m + d, by omega, by omega, by go_num, by rw [← Hmv.out], Hm2, hm2⟩
          case measure => simp [intOf] <;> omega
      · have hje : j = T.length := by omega
        have hmz : m = z.natAbs := by
          rw [hm.out, hje, List.take_of_length_le (by have := HTl.out; omega), Hv.out]
        have hnl : ¬ (j : Int) < (T.length : Int) := by omega
        clear hm
        have hyes : inI64 z = true := by unfold inI64; exact decide_eq_true (by omega)
        have Hyes := Lib.hid hyes
        have hzm : z = -(m : Int) := by omega
        have Hzm := Lib.hid hzm
        clear hyes hmz hzm
        go_wp2_with fail
        go_ret2
        refine ⟨?_, Ext.refl _⟩
        rw [Hyes.out, if_pos rfl, Hzm.out]
        simp
  · have hI : I z = S l := by unfold I; rw [itoa_pos (by omega), ← hl]
    rw [hI]
    have hstep : ∀ j, 0 ≤ j → ∀ h : j < l.length, ∃ b d : Nat, l[j].toNat = b ∧ d ≤ 9 ∧ b = 48 + d ∧ valB 0 (l.take (j + 1 - 0)) = 10 * valB 0 (l.take (j - 0)) + d := fun j _ h => take_step8 hdg h
    obtain ⟨T, hTe⟩ : ∃ T, T = l := ⟨_, rfl⟩
    have hlen : T.length = l.length := by rw [hTe]
    have h0T : 0 < T.toArray.size := by rw [List.size_toArray]; omega
    have hb0 : ((((⟨T.toArray⟩ : ByteArray)[0]'h0T).toNat : Int) == 45) = false := by
      subst hTe
      have h1 : ((⟨T.toArray⟩ : ByteArray)[0]'h0T) = T[0] := by rfl
      rw [h1]
      have := hdg T[0] (List.getElem_mem hl0)
      unfold isDig at this
      exact beq_eq_false_iff_ne.2 (by omega)
    have hstep2 : ∀ j, 0 ≤ j → ∀ h : j < T.length, ∃ b d : Nat, T[j].toNat = b ∧ d ≤ 9 ∧ b = 48 + d ∧ valB 0 (l.take (j + 1 - 0)) = 10 * valB 0 (l.take (j - 0)) + d := by subst hTe; exact hstep
    rw [show S l = S T by rw [hTe]]
    have hlb : ((0 : Int) == (T.length : Int)) = false := beq_eq_false_iff_ne.2 (by omega)
    have hlp : (0 : Int) < (T.length : Int) := by omega
    have hTll : T.length ≤ 1000000000 := by omega
    have HTl := Lib.hid hlen
    have Hstep := Lib.hid hstep2
    have Hv := Lib.hid hv
    clear hdg hl hI hv hlen hstep hstep2 hTe hll hl0
    go_enter Tryz.func73, Tryz.ntmps73
    go_wp2_with fail
    go_loop [5, 7] (fun iv nv => ∃ j m : Nat, 0 ≤ j ∧ j ≤ T.length ∧ iv = .int .i64 j ∧ nv = .int .i64 (-(m : Int)) ∧ Hid (m = valB 0 (l.take (j - 0))) ∧ m ≤ 9223372036854775808) (fun iv _ => T.length - (intOf iv).toNat)
    case atStart => exact ⟨0, 0, by omega, by omega, by go_num, by go_num, Lib.hid (by simp [valB_nil]), by omega⟩
    case round =>
      obtain ⟨j, m, hj0, hj1, rfl, rfl, hm, hm63⟩ := hrel
      by_cases hlt : j < T.length
      · have hji : (j : Int) < (T.length : Int) := by omega
        obtain ⟨b, d, hb1, hb2, hbd, hst⟩ := Hstep.out j hj0 hlt
        have hd9 : d ≤ 9 := hb2
        have hcI : (((({ data := T.toArray } : ByteArray)[j]'(by show j < T.toArray.size; rw [List.size_toArray]; exact hlt)).toNat : Nat) : Int) = (b : Int) := by
          have := hb1
          rw [← this]; rfl
        have hdI : (b : Int) - 48 = (d : Int) := by omega
        obtain ⟨q, hq⟩ : ∃ q, q = (9223372036854775808 - d) / 10 := ⟨_, rfl⟩
        have hqI : ((-9223372036854775808 : Int) + (d : Int)).tdiv 10 = -(q : Int) := by
          have h1 : (-9223372036854775808 : Int) + (d : Int) = -((9223372036854775808 - d : Nat) : Int) := by omega
          rw [h1, Int.neg_tdiv, Int.tdiv_eq_ediv_of_nonneg (by omega), hq]; omega
        have hq9 : (q : Int) ≤ 922337203685477580 := by omega
        have hq8 : (-922337203685477580 : Int) ≤ -(q : Int) := by omega
        have hd1 : ¬ (9 : Int) < (d : Int) := by omega
        have hd0 : ¬ (d : Int) < 0 := by omega
        have hd00 : decide ((d : Int) < 0) = false := decide_eq_false hd0
        have hb3 : (48 : Int) ≤ (b : Int) := by omega
        have hb4 : (b : Int) ≤ 57 := by omega
        have hst2 : valB 0 (l.take (j + 1 - 0)) = 10 * m + d := by rw [hst, ← hm.out]
        by_cases hov : q < m
        · have hovi : -(m : Int) < -(q : Int) := by omega
          have hno : inI64 z = false := by
            have h1 := valB_pre l (j + 1 - 0)
            rw [hst2, Hv.out] at h1
            unfold inI64
            exact decide_eq_false (by omega)
          have Hno := Lib.hid hno
          clear hno hst hst2 hq hm hb1 hbd
          go_wp2_with fail
          go_ret2
          exact ⟨by rw [Hno.out]; rfl, Ext.refl _⟩
        · have hovi : ¬ -(m : Int) < -(q : Int) := by omega
          have hm2 : 10 * m + d ≤ 9223372036854775808 := by omega
          have Hm2 := Lib.hid (hst2.symm)
          have hlo : (-9223372036854775808 : Int) ≤ -(m : Int) * 10 - (d : Int) := by omega
          have hmv : -(m : Int) * 10 - (d : Int) = -((10 * m + d : Nat) : Int) := by omega
          have Hmv := Lib.hid hmv
          clear hst hst2 hq hm hb1 hmv hbd
          go_wp2_with fail
          go_round
          case rel => exact ⟨j + 1, 10 * m + d, by omega, by omega, by go_num, by rw [← Hmv.out], Hm2, hm2⟩
          case measure => simp [intOf] <;> omega
      · have hje : j = T.length := by omega
        have hmz : m = z.natAbs := by
          rw [hm.out, hje, List.take_of_length_le (by have := HTl.out; omega), Hv.out]
        have hnl : ¬ (j : Int) < (T.length : Int) := by omega
        clear hm
        by_cases hbig : m = 9223372036854775808
        · have hno : inI64 z = false := by unfold inI64; exact decide_eq_false (by omega)
          have Hno := Lib.hid hno
          subst hbig
          clear hno hmz
          go_wp2_with fail
          go_ret2
          exact ⟨by rw [Hno.out]; rfl, Ext.refl _⟩
        · have hyes : inI64 z = true := by unfold inI64; exact decide_eq_true (by omega)
          have Hyes := Lib.hid hyes
          have hnb : ¬ -(m : Int) = -9223372036854775808 := by omega
          have hnb2 : (-(m : Int) == -9223372036854775808) = false := beq_eq_false_iff_ne.2 hnb
          have hzm : z = (m : Int) := by omega
          have Hzm := Lib.hid hzm
          clear hyes hmz hzm
          go_wp2_with fail
          go_ret2
          refine ⟨?_, Ext.refl _⟩
          rw [Hyes.out, if_pos rfl, Hzm.out]
          simp
end Go.Proofs.YthmhmkkcjlgbjaaGreatDoor
