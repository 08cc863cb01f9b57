/- Part 17 of the proof of the claim: contracts of the functions that it reaches, and plain laws; no condition. -/
import Derived.Test.YthmhmkkcjlgbjaaGreatDoorV16
/- schismaref03: NegW, SignW, AddW -/
namespace Go.Proofs.YthmhmkkcjlgbjaaGreatDoor
open Go.RowKit Go.Sort
/-- What a call's result cell holds behind the store of an integer. -/
theorem res_end {w w5 : World} {r : Nat} {z : Int} {v : Value} (hE : Ext w w5) (hr : w.heap.size ≤ r) (hOr : OwnV 66 w.heap.size w5 r 2 [.bool false, .slice none 0 0]) (hv : WhR w5 v z) :
    ∃ bz sv n cv, v = .agg #[.bool bz, .slice sv n cv] ∧ w5.cell? ⟨r, 0, none⟩ = some (.bool false) ∧ w5.cell? ⟨r, 1, none⟩ = some (.slice none 0 0) ∧ w5.frozen? ⟨r, 0, none⟩ = false ∧ w5.frozen? ⟨r, 1, none⟩ = false ∧
      ((w5.setCell ⟨r, 0, none⟩ (.bool bz)).setCell ⟨r, 1, none⟩ (.slice sv n cv)).cell? ⟨r, 0, none⟩ = some (.bool bz) ∧ ((w5.setCell ⟨r, 0, none⟩ (.bool bz)).setCell ⟨r, 1, none⟩ (.slice sv n cv)).cell? ⟨r, 1, none⟩ = some (.slice sv n cv) ∧
      Hid (WhPost w z (.returned (.agg #[.bool bz, .slice sv n cv])) ((w5.setCell ⟨r, 0, none⟩ (.bool bz)).setCell ⟨r, 1, none⟩ (.slice sv n cv))) ∧ w5.grownBy ((w5.setCell ⟨r, 0, none⟩ (.bool bz)).setCell ⟨r, 1, none⟩ (.slice sv n cv)) (some r) := by
  obtain ⟨dv, rfl, hdv⟩ := hv
  obtain ⟨sv, bv, ov, cv, rfl, kv, hSv⟩ := hdv.open
  obtain ⟨hR, hGR⟩ := res_set hOr (.bool (decide (z < 0))) (.slice sv (pc z.natAbs).length cv)
  obtain ⟨r0, r1⟩ := res_get hR
  refine ⟨_, sv, _, cv, rfl, hOr.cell (j := 0) (by simp), hOr.cell (j := 1) (by simp), hOr.frozen 0, hOr.frozen 1, r0, r1, Lib.hid ⟨_, rfl, ⟨_, rfl, dig_kept hOr hGR hdv⟩, ext_trans_grown hE hGR hr⟩, hGR⟩
/-- trim at a value. -/
theorem trim_v {w : World} {b : Bool} {d : Value} {p : List Nat} (h : DgR w d p) (hl : p.length ≤ 10000000000000) (hs : small9 p) :
    Calls Tryz.prog 67 #[.agg #[.bool b, d]] w (WhPost w (sgn b (vP p))) := by
  have hT := h.ty
  obtain ⟨sa, gb, go, cap, rfl, hc, hS⟩ := h.open
  exact trim_w hS hT hc hl hs
theorem row_shape {w : World} {v : Value} {l : List Int} (h : RowR w v l) : ∃ a n c, v = .slice a n c := by
  obtain ⟨a, _, _, c, e, _⟩ := h; exact ⟨_, _, _, e⟩
theorem neg_sgn (a : Int) : sgn (!decide (a < 0)) a.natAbs = -a := by
  unfold sgn
  by_cases h : a < 0
  · simp [h]; omega
  · simp [h]; omega
theorem own2 (w : World) (T : TypeId) (a b c d : Value) : ((w.alloc (.cells #[a, b] T)).alloc (.cells #[c, d] T)).cell? ⟨w.heap.size, 0, none⟩ = some a ∧ ((w.alloc (.cells #[a, b] T)).alloc (.cells #[c, d] T)).cell? ⟨w.heap.size, 1, none⟩ = some b ∧
    OwnV T w.heap.size ((w.alloc (.cells #[a, b] T)).alloc (.cells #[c, d] T)) (w.heap.size + 1) 2 [c, d] := by
  refine ⟨by go_simp, by go_simp, ?_⟩
  have := own_alloc (w.alloc (.cells #[a, b] T)) T c d
  have e2 : (w.alloc (.cells #[a, b] T)).heap.size = w.heap.size + 1 := by simp
  rw [e2] at this
  exact this.mono (by omega)
set_option maxRecDepth 100000 in
set_option maxHeartbeats 1000000 in
theorem negW_w {w : World} {va : Value} {a : Int} (hA : WhR w va a) (hl : (pc a.natAbs).length ≤ 1000000000) : Calls Tryz.prog 108 #[va] w (WhPost w (-a)) := by
  obtain ⟨da, rfl, hda⟩ := hA
  obtain ⟨ga, na, ca, rfl⟩ := row_shape hda.row
  obtain ⟨ba, hba⟩ : ∃ ba, ba = decide (a < 0) := ⟨_, rfl⟩
  obtain ⟨f0, f1, hOr⟩ := own2 w 66 (.bool ba) (.slice ga na ca) (.bool false) (.slice none 0 0)
  have hEw := (((Ext.refl w).alloc (.cells #[.bool ba, .slice ga na ca] 66)).alloc (.cells #[.bool false, .slice none 0 0] 66))
  have ht := trim_v (b := !ba) (hda.ext hEw) (by omega) (pc_small _)
  rw [vP_pc, hba, neg_sgn, ← hba] at ht
  rw [← hba]
  have Ht := Lib.hid ht
  have HOr := Lib.hid hOr
  clear hda hl hba hOr ht
  go_enter Tryz.func108, Tryz.ntmps108
  go_wp2_with fail
  refine Ht.out.mono ?_
  rintro e w5 ⟨v, rfl, hv, hE5⟩
  obtain ⟨bz, sv, n, cv, rfl, q0, q1, q2, q3, r0, r1, hfin, _⟩ := res_end (hEw.trans hE5) (by omega) (HOr.out.ext hE5) hv
  clear hv Ht HOr
  go_wp2_with fail
  refine bodyPost_ret (v := .agg #[.bool bz, .slice sv n cv]) (by simp [results, Tryz.results108, go_sem, r0, r1]) rfl hfin.out
theorem sign_def (a : Int) : a.sign = if (pc a.natAbs).length = 0 then 0 else if a < 0 then -1 else 1 := by
  have e : (pc a.natAbs).length = 0 ↔ a = 0 := by rw [List.length_eq_zero_iff, pc_nil]; omega
  rcases Int.lt_trichotomy a 0 with h | h | h
  · rw [if_neg (by rw [e]; omega), if_pos h, Int.sign_eq_neg_one_of_neg h]
  · subst h; rw [if_pos (e.2 rfl)]; rfl
  · rw [if_neg (by rw [e]; omega), if_neg (by omega), Int.sign_eq_one_of_pos h]
set_option maxRecDepth 100000 in
theorem signW_w {w : World} {va : Value} {a : Int} (hA : WhR w va a) : Calls Tryz.prog 62 #[va] w fun e w' => e = .returned (.int .i64 a.sign) ∧ Ext w w' := by
  obtain ⟨da, rfl, hda⟩ := hA
  obtain ⟨ga, b1, o1, c1, rfl, k1, h1⟩ := hda.open
  rw [sign_def]
  have hEw := ((Ext.refl w).alloc (.cells #[.bool (decide (a < 0)), .slice ga (pc a.natAbs).length c1] 66))
  clear hda k1 h1
  generalize (pc a.natAbs).length = n at *
  by_cases hn : n = 0
  · subst hn
    rw [if_pos rfl]
    generalize decide (a < 0) = ba at *
    go_enter Tryz.func62, Tryz.ntmps62
    go_wp2_with fail
    go_ret
    exact ⟨rfl, hEw⟩
  · rw [if_neg hn]
    have hn1 : ((n : Int) == 0) = false := beq_eq_false_iff_ne.2 (by omega)
    by_cases h : a < 0
    · rw [if_pos h]
      rw [decide_eq_true h] at hEw ⊢
      clear h hn
      go_enter Tryz.func62, Tryz.ntmps62
      go_wp2_with fail
      go_ret
      exact ⟨rfl, hEw⟩
    · rw [if_neg h]
      rw [decide_eq_false h] at hEw ⊢
      clear h hn
      go_enter Tryz.func62, Tryz.ntmps62
      go_wp2_with fail
      go_ret
      exact ⟨rfl, hEw⟩
theorem add_same {a b : Int} (h : decide (a < 0) = decide (b < 0)) : sgn (decide (a < 0)) (a.natAbs + b.natAbs) = a + b := by
  unfold sgn
  by_cases ha : a < 0
  · have hb : b < 0 := by rw [decide_eq_true ha] at h; exact of_decide_eq_true h.symm
    simp [ha]; omega
  · have hb : ¬ b < 0 := by rw [decide_eq_false ha] at h; exact of_decide_eq_false h.symm
    simp [ha]; omega
theorem add_ge {a b : Int} (h : decide (a < 0) ≠ decide (b < 0)) (hl : b.natAbs ≤ a.natAbs) : sgn (decide (a < 0)) (a.natAbs - b.natAbs) = a + b := by
  unfold sgn
  by_cases ha : a < 0
  · have hb : ¬ b < 0 := fun hb => h (by rw [decide_eq_true ha, decide_eq_true hb])
    simp [ha]; omega
  · have hb : b < 0 := Classical.byContradiction fun hb => h (by rw [decide_eq_false ha, decide_eq_false hb])
    simp [ha]; omega
theorem add_lt {a b : Int} (h : decide (a < 0) ≠ decide (b < 0)) (hl : a.natAbs < b.natAbs) : sgn (decide (b < 0)) (b.natAbs - a.natAbs) = a + b := by
  unfold sgn
  by_cases ha : a < 0
  · have hb : ¬ b < 0 := fun hb => h (by rw [decide_eq_true ha, decide_eq_true hb])
    simp [hb]; omega
  · have hb : b < 0 := Classical.byContradiction fun hb => h (by rw [decide_eq_false ha, decide_eq_false hb])
    simp [hb]; omega
theorem pc_mono {u v : Nat} (h : u ≤ v) : (pc u).length ≤ (pc v).length := by
  refine pc_length_le (Nat.lt_of_le_of_lt h ?_)
  have := vP_lt (pc_small v)
  rwa [vP_pc] at this
set_option maxRecDepth 100000 in
set_option maxHeartbeats 4000000 in
theorem addW_w {w : World} {va vb : Value} {a b : Int} (hA : WhR w va a) (hB : WhR w vb b) (l1 : (pc a.natAbs).length ≤ 400000000) (l2 : (pc b.natAbs).length ≤ 400000000) :
    Calls Tryz.prog 69 #[va, vb] w (WhPost w (a + b)) := by
  obtain ⟨da, rfl, hda⟩ := hA
  obtain ⟨db, rfl, hdb⟩ := hB
  obtain ⟨ga, la, c1, rfl⟩ := row_shape hda.row
  obtain ⟨gb, lb, c2, rfl⟩ := row_shape hdb.row
  obtain ⟨ba, hba⟩ : ∃ ba, ba = decide (a < 0) := ⟨_, rfl⟩
  obtain ⟨bb, hbb⟩ : ∃ bb, bb = decide (b < 0) := ⟨_, rfl⟩
  rw [← hba, ← hbb]
  obtain ⟨f0, f1, f2, f3, hOr⟩ := own3 w 66 (.bool ba) (.slice ga la c1) (.bool bb) (.slice gb lb c2) (.bool false) (.slice none 0 0)
  have hEw := ((((Ext.refl w).alloc (.cells #[.bool ba, .slice ga la c1] 66)).alloc (.cells #[.bool bb, .slice gb lb c2] 66)).alloc (.cells #[.bool false, .slice none 0 0] 66))
  have HOr := Lib.hid hOr
  have Hda := Lib.hid (hda.ext hEw)
  have Hdb := Lib.hid (hdb.ext hEw)
  have Hba := Lib.hid hba
  have Hbb := Lib.hid hbb
  clear hda hdb hOr hba hbb
  by_cases hs : ba = bb
  · have hs1 : (ba == bb) = true := by simp [hs]
    have Hs := Lib.hid (add_same (a := a) (b := b) (by rw [← Hba.out, ← Hbb.out, hs]))
    rw [← Hba.out] at Hs
    clear hs
    go_enter Tryz.func69, Tryz.ntmps69
    go_wp2_with fail
    generalize (((w.alloc (.cells #[.bool ba, .slice ga la c1] 66)).alloc (.cells #[.bool bb, .slice gb lb c2] 66)).alloc (.cells #[.bool false, .slice none 0 0] 66)) = V at *
    have hpl := Lib.hid (fun W (hW : Ext V W) => plus_w (Hda.out.ext hW) (Hdb.out.ext hW) (pc_small _) (pc_small _) (by omega) (by omega))
    rw [vP_pc, vP_pc] at hpl
    have s4 := And.intro (((Ext.refl V).drew).cell f0) (And.intro (((Ext.refl V).drew).cell f1) (And.intro (((Ext.refl V).drew).cell f2) (((Ext.refl V).drew).cell f3)))
    go_region_held3 (fun w' => w'.cell? ⟨w.heap.size, 0, none⟩ = some (.bool ba) ∧ w'.cell? ⟨w.heap.size, 1, none⟩ = some (.slice ga la c1) ∧ w'.cell? ⟨w.heap.size + 1, 0, none⟩ = some (.bool bb) ∧ w'.cell? ⟨w.heap.size + 1, 1, none⟩ = some (.slice gb lb c2)) (first | exact s7 | exact s6 | exact s5 | exact s4 | go_keep)
      (first
        | (go_at_call 109; refine (hpl.out _ ((Ext.refl _).drew)).mono ?_; rintro e W5 ⟨v5, rfl, ⟨p5, hp5, hv5, hl5, hr5⟩, hE5⟩; obtain ⟨x5, y5, z5, rfl⟩ := row_shape hr5.row; have hV5 := ((Ext.refl V).drew).trans hE5; have s5 := And.intro (hV5.cell f0) (And.intro (hV5.cell f1) (And.intro (hV5.cell f2) (hV5.cell f3))); have ht := Lib.hid (trim_v (b := ba) hr5.dg (by omega) hp5); rw [hv5, Hs.out] at ht)
        | (go_at_call 67; refine ht.out.mono ?_; rintro e W6 ⟨v6, rfl, hv6, hE6⟩; have hV6 := hV5.trans hE6; have s6 := And.intro (hV6.cell f0) (And.intro (hV6.cell f1) (And.intro (hV6.cell f2) (hV6.cell f3))); obtain ⟨bz, sv, nv, cv, rfl, q0, q1, q2, q3, r0, r1, hfin, hGr⟩ := res_end (hEw.trans hV6) (by omega) (HOr.out.ext hV6) hv6; have s7 := And.intro (grown_frozen_cell hGr (by omega) s6.1) (And.intro (grown_frozen_cell hGr (by omega) s6.2.1) (And.intro (grown_frozen_cell hGr (by omega) s6.2.2.1) (grown_frozen_cell hGr (by omega) s6.2.2.2)))))
    clear hGr s4 s5 s6 s7 ht hpl f0 f1 f2 f3 HOr
    go_wp2_with fail
    refine bodyPost_ret (v := .agg #[.bool bz, .slice sv nv cv]) (by simp [results, Tryz.results69, go_sem, r0, r1]) rfl hfin.out
  · have hs1 : (ba == bb) = false := by simpa using hs
    have hne : decide (a < 0) ≠ decide (b < 0) := by rw [← Hba.out, ← Hbb.out]; exact hs
    have hab := Lib.hid (above_w (Hda.out) (Hdb.out) (show _ ≤ 1000000000000 by omega) (show _ ≤ 1000000000000 by omega))
    by_cases hge : b.natAbs ≤ a.natAbs
    · have hc : 0 ≤ cmpN a.natAbs b.natAbs := by unfold cmpN; rw [if_neg (by omega)]; split <;> omega
      have Hs := Lib.hid (add_ge hne hge)
      rw [← Hba.out] at Hs
      have hll : (pc b.natAbs).length ≤ (pc a.natAbs).length := pc_mono hge
      generalize hcz : cmpN a.natAbs b.natAbs = cz at *
      clear hcz hne hs
      go_enter Tryz.func69, Tryz.ntmps69
      go_wp2_with fail
      refine hab.out.mono ?_
      rintro e V ⟨rfl, hEV⟩
      have f0 := hEV.cell f0
      have f1 := hEV.cell f1
      have f2 := hEV.cell f2
      have f3 := hEV.cell f3
      have hEw := hEw.trans hEV
      have HOr := Lib.hid (HOr.out.ext hEV)
      have hpl := Lib.hid (fun W (hW : Ext V W) => minus_w (Hda.out.ext (hEV.trans hW)) (Hdb.out.ext (hEV.trans hW)) (pc_small _) (pc_small _) (by omega) hll (by rw [vP_pc, vP_pc]; exact hge))
      rw [vP_pc, vP_pc] at hpl
      clear hab hll
      go_wp2_with fail
      have s4 := And.intro (((Ext.refl V).drew).cell f0) (And.intro (((Ext.refl V).drew).cell f1) (And.intro (((Ext.refl V).drew).cell f2) (((Ext.refl V).drew).cell f3)))
      go_region_held3 (fun w' => w'.cell? ⟨w.heap.size, 0, none⟩ = some (.bool ba) ∧ w'.cell? ⟨w.heap.size, 1, none⟩ = some (.slice ga la c1) ∧ w'.cell? ⟨w.heap.size + 1, 0, none⟩ = some (.bool bb) ∧ w'.cell? ⟨w.heap.size + 1, 1, none⟩ = some (.slice gb lb c2)) (first | exact s7 | exact s6 | exact s5 | exact s4 | go_keep)
        (first
          | (go_at_call 107; refine (hpl.out _ ((Ext.refl _).drew)).mono ?_; rintro e W5 ⟨v5, rfl, ⟨p5, hp5, hv5, hl5, hr5⟩, hE5⟩; obtain ⟨x5, y5, z5, rfl⟩ := row_shape hr5.row; have hV5 := ((Ext.refl V).drew).trans hE5; have s5 := And.intro (hV5.cell f0) (And.intro (hV5.cell f1) (And.intro (hV5.cell f2) (hV5.cell f3))); have ht := Lib.hid (trim_v (b := ba) hr5.dg (by omega) hp5); rw [hv5, Hs.out] at ht)
          | (go_at_call 67; refine ht.out.mono ?_; rintro e W6 ⟨v6, rfl, hv6, hE6⟩; have hV6 := hV5.trans hE6; have s6 := And.intro (hV6.cell f0) (And.intro (hV6.cell f1) (And.intro (hV6.cell f2) (hV6.cell f3))); obtain ⟨bz, sv, nv, cv, rfl, q0, q1, q2, q3, r0, r1, hfin, hGr⟩ := res_end (hEw.trans hV6) (by omega) (HOr.out.ext hV6) hv6; have s7 := And.intro (grown_frozen_cell hGr (by omega) s6.1) (And.intro (grown_frozen_cell hGr (by omega) s6.2.1) (And.intro (grown_frozen_cell hGr (by omega) s6.2.2.1) (grown_frozen_cell hGr (by omega) s6.2.2.2)))))
      clear hGr s4 s5 s6 s7 ht hpl f0 f1 f2 f3 HOr
      go_wp2_with fail
      refine bodyPost_ret (v := .agg #[.bool bz, .slice sv nv cv]) (by simp [results, Tryz.results69, go_sem, r0, r1]) rfl hfin.out
    · have hc : ¬ 0 ≤ cmpN a.natAbs b.natAbs := by unfold cmpN; rw [if_pos (by omega)]; decide
      have hlt : a.natAbs < b.natAbs := by omega
      have Hs := Lib.hid (add_lt hne hlt)
      rw [← Hbb.out] at Hs
      have hll : (pc a.natAbs).length ≤ (pc b.natAbs).length := pc_mono (by omega)
      generalize hcz : cmpN a.natAbs b.natAbs = cz at *
      clear hcz hne hs
      go_enter Tryz.func69, Tryz.ntmps69
      go_wp2_with fail
      refine hab.out.mono ?_
      rintro e V ⟨rfl, hEV⟩
      have f0 := hEV.cell f0
      have f1 := hEV.cell f1
      have f2 := hEV.cell f2
      have f3 := hEV.cell f3
      have hEw := hEw.trans hEV
      have HOr := Lib.hid (HOr.out.ext hEV)
      have hpl := Lib.hid (fun W (hW : Ext V W) => minus_w (Hdb.out.ext (hEV.trans hW)) (Hda.out.ext (hEV.trans hW)) (pc_small _) (pc_small _) (by omega) hll (by rw [vP_pc, vP_pc]; exact (by omega)))
      rw [vP_pc, vP_pc] at hpl
      clear hab hll
      go_wp2_with fail
      have s4 := And.intro (((Ext.refl V).drew).cell f0) (And.intro (((Ext.refl V).drew).cell f1) (And.intro (((Ext.refl V).drew).cell f2) (((Ext.refl V).drew).cell f3)))
      go_region_held3 (fun w' => w'.cell? ⟨w.heap.size, 0, none⟩ = some (.bool ba) ∧ w'.cell? ⟨w.heap.size, 1, none⟩ = some (.slice ga la c1) ∧ w'.cell? ⟨w.heap.size + 1, 0, none⟩ = some (.bool bb) ∧ w'.cell? ⟨w.heap.size + 1, 1, none⟩ = some (.slice gb lb c2)) (first | exact s7 | exact s6 | exact s5 | exact s4 | go_keep)
        (first
          | (go_at_call 107; refine (hpl.out _ ((Ext.refl _).drew)).mono ?_; rintro e W5 ⟨v5, rfl, ⟨p5, hp5, hv5, hl5, hr5⟩, hE5⟩; obtain ⟨x5, y5, z5, rfl⟩ := row_shape hr5.row; have hV5 := ((Ext.refl V).drew).trans hE5; have s5 := And.intro (hV5.cell f0) (And.intro (hV5.cell f1) (And.intro (hV5.cell f2) (hV5.cell f3))); have ht := Lib.hid (trim_v (b := bb) hr5.dg (by omega) hp5); rw [hv5, Hs.out] at ht)
          | (go_at_call 67; refine ht.out.mono ?_; rintro e W6 ⟨v6, rfl, hv6, hE6⟩; have hV6 := hV5.trans hE6; have s6 := And.intro (hV6.cell f0) (And.intro (hV6.cell f1) (And.intro (hV6.cell f2) (hV6.cell f3))); obtain ⟨bz, sv, nv, cv, rfl, q0, q1, q2, q3, r0, r1, hfin, hGr⟩ := res_end (hEw.trans hV6) (by omega) (HOr.out.ext hV6) hv6; have s7 := And.intro (grown_frozen_cell hGr (by omega) s6.1) (And.intro (grown_frozen_cell hGr (by omega) s6.2.1) (And.intro (grown_frozen_cell hGr (by omega) s6.2.2.1) (grown_frozen_cell hGr (by omega) s6.2.2.2)))))
      clear hGr s4 s5 s6 s7 ht hpl f0 f1 f2 f3 HOr
      go_wp2_with fail
      refine bodyPost_ret (v := .agg #[.bool bz, .slice sv nv cv]) (by simp [results, Tryz.results69, go_sem, r0, r1]) rfl hfin.out
end Go.Proofs.YthmhmkkcjlgbjaaGreatDoor
/- schismaref03: SubW, CompareW, times -/
namespace Go.Proofs.YthmhmkkcjlgbjaaGreatDoor
open Go.RowKit Go.Sort
theorem WhR.shape {w : World} {v : Value} {a : Int} (h : WhR w v a) : ∃ b s n c, v = .agg #[.bool b, .slice s n c] := by
  obtain ⟨d, rfl, hd⟩ := h
  obtain ⟨s, n, c, rfl⟩ := row_shape hd.row
  exact ⟨_, _, _, _, rfl⟩
theorem pc_add {u v k : Nat} (h1 : (pc u).length ≤ k) (h2 : (pc v).length ≤ k) : (pc (u + v)).length ≤ k + 1 := by
  refine pc_length_le ?_
  have e1 := vP_lt (pc_small u)
  have e2 := vP_lt (pc_small v)
  rw [vP_pc] at e1 e2
  have e3 : 1000000000 ^ (pc u).length ≤ 1000000000 ^ k := Nat.pow_le_pow_right (by omega) h1
  have e4 : 1000000000 ^ (pc v).length ≤ 1000000000 ^ k := Nat.pow_le_pow_right (by omega) h2
  rw [Nat.pow_succ]; omega
theorem pc_mul (u v : Nat) : (pc (u * v)).length ≤ (pc u).length + (pc v).length := by
  refine pc_length_le ?_
  have e1 := vP_lt (pc_small u)
  have e2 := vP_lt (pc_small v)
  rw [vP_pc] at e1 e2
  rw [Nat.pow_add]
  exact Nat.mul_lt_mul'' e1 e2
theorem pc_abs_add {a b : Int} {k : Nat} (h1 : (pc a.natAbs).length ≤ k) (h2 : (pc b.natAbs).length ≤ k) : (pc (a + b).natAbs).length ≤ k + 1 :=
  Nat.le_trans (pc_mono (Int.natAbs_add_le a b)) (pc_add h1 h2)
set_option maxRecDepth 100000 in
set_option maxHeartbeats 4000000 in
theorem subW_w {w : World} {va vb : Value} {a b : Int} (hA : WhR w va a) (hB : WhR w vb b) (l1 : (pc a.natAbs).length ≤ 400000000) (l2 : (pc b.natAbs).length ≤ 400000000) :
    Calls Tryz.prog 68 #[va, vb] w (WhPost w (a - b)) := by
  obtain ⟨ba, ga, la, c1, rfl⟩ := hA.shape
  obtain ⟨bb, gb, lb, c2, rfl⟩ := hB.shape
  obtain ⟨f0, f1, f2, f3, hOr⟩ := own3 w 66 (.bool ba) (.slice ga la c1) (.bool bb) (.slice gb lb c2) (.bool false) (.slice none 0 0)
  have hEw := ((((Ext.refl w).alloc (.cells #[.bool ba, .slice ga la c1] 66)).alloc (.cells #[.bool bb, .slice gb lb c2] 66)).alloc (.cells #[.bool false, .slice none 0 0] 66))
  have HOr := Lib.hid hOr
  have HA := Lib.hid (hA.ext hEw)
  have HB := Lib.hid (hB.ext hEw)
  clear hA hB hOr
  go_enter Tryz.func68, Tryz.ntmps68
  go_wp2_with fail
  generalize (((w.alloc (.cells #[.bool ba, .slice ga la c1] 66)).alloc (.cells #[.bool bb, .slice gb lb c2] 66)).alloc (.cells #[.bool false, .slice none 0 0] 66)) = V at *
  have hng := Lib.hid (fun W (hW : Ext V W) => negW_w (HB.out.ext hW) (by omega))
  have s4 := And.intro (((Ext.refl V).drew).cell f0) (And.intro (((Ext.refl V).drew).cell f1) (And.intro (((Ext.refl V).drew).cell f2) (((Ext.refl V).drew).cell f3)))
  go_region_held3 (fun w' => w'.cell? ⟨w.heap.size, 0, none⟩ = some (.bool ba) ∧ w'.cell? ⟨w.heap.size, 1, none⟩ = some (.slice ga la c1) ∧ w'.cell? ⟨w.heap.size + 1, 0, none⟩ = some (.bool bb) ∧ w'.cell? ⟨w.heap.size + 1, 1, none⟩ = some (.slice gb lb c2)) (first | exact s7 | exact s6 | exact s5 | exact s4 | go_keep)
    (first
      | (go_at_call 108; refine (hng.out _ ((Ext.refl _).drew)).mono ?_; rintro e W5 ⟨v5, rfl, hv5, hE5⟩; have hV5 := ((Ext.refl V).drew).trans hE5; have s5 := And.intro (hV5.cell f0) (And.intro (hV5.cell f1) (And.intro (hV5.cell f2) (hV5.cell f3))); have ht := Lib.hid (addW_w (HA.out.ext hV5) hv5 l1 (by rw [Int.natAbs_neg]; exact l2)); obtain ⟨b5, g5, n5, c5, rfl⟩ := hv5.shape; clear hv5)
      | (go_at_call 69; refine ht.out.mono ?_; rintro e W6 ⟨v6, rfl, hv6, hE6⟩; rw [← Int.sub_eq_add_neg] at hv6; have hV6 := hV5.trans hE6; have s6 := And.intro (hV6.cell f0) (And.intro (hV6.cell f1) (And.intro (hV6.cell f2) (hV6.cell f3))); obtain ⟨bz, sv, nv, cv, rfl, q0, q1, q2, q3, r0, r1, hfin, hGr⟩ := res_end (hEw.trans hV6) (by omega) (HOr.out.ext hV6) hv6; have s7 := And.intro (grown_frozen_cell hGr (by omega) s6.1) (And.intro (grown_frozen_cell hGr (by omega) s6.2.1) (And.intro (grown_frozen_cell hGr (by omega) s6.2.2.1) (grown_frozen_cell hGr (by omega) s6.2.2.2)))))
  clear hGr s4 s5 s6 s7 ht hng f0 f1 f2 f3 HOr
  go_wp2_with fail
  refine bodyPost_ret (v := .agg #[.bool bz, .slice sv nv cv]) (by simp [results, Tryz.results68, go_sem, r0, r1]) rfl hfin.out
set_option maxRecDepth 100000 in
set_option maxHeartbeats 1000000 in
theorem compareW_w {w : World} {va vb : Value} {a b : Int} (hA : WhR w va a) (hB : WhR w vb b) (l1 : (pc a.natAbs).length ≤ 400000000) (l2 : (pc b.natAbs).length ≤ 400000000) :
    Calls Tryz.prog 145 #[va, vb] w fun e w' => e = .returned (.int .i64 (a - b).sign) ∧ Ext w w' := by
  obtain ⟨ba, ga, la, c1, rfl⟩ := hA.shape
  obtain ⟨bb, gb, lb, c2, rfl⟩ := hB.shape
  have hEw := (((Ext.refl w).alloc (.cells #[.bool ba, .slice ga la c1] 66)).alloc (.cells #[.bool bb, .slice gb lb c2] 66))
  have hs := Lib.hid (subW_w (hA.ext hEw) (hB.ext hEw) l1 l2)
  clear hA hB
  go_enter Tryz.func145, Tryz.ntmps145
  go_wp2_with fail
  refine hs.out.mono ?_
  rintro e W5 ⟨v5, rfl, hv5, hE5⟩
  have hg := Lib.hid (signW_w hv5)
  clear hs hv5
  go_wp2_with fail
  refine hg.out.mono ?_
  rintro e W6 ⟨rfl, hE6⟩
  go_wp2_with fail
  go_ret
  exact ⟨rfl, (hEw.trans hE5).trans hE6⟩
theorem field_w (b : Bool) (s : Option Addr) (n c : Nat) (W : World) : (Instr.field 66 (.agg #[.bool b, .slice s n c]) 1).run Tryz.prog W = .ok (.slice s n c) W := by kernel_rfl
theorem whr_dig {w : World} {v : Value} {u : Nat} (h : DgR w v (pc u)) : WhR w (.agg #[.bool false, v]) (u : Int) := by
  refine ⟨v, ?_, by rw [Int.natAbs_natCast]; exact h⟩
  rw [decide_eq_false (by omega)]
theorem row_lit (w : World) (z : Int) {B : Nat} (hB : B ≤ w.heap.size) : RowV B (w.alloc (.cells #[.int .i64 z] 3)) (.slice (some ⟨w.heap.size, 0, none⟩) 1 1) [z] :=
  ⟨rfl, .inr ⟨w.heap.size, 1, #[.int .i64 z], rfl, hB, alloc_at _ _, Nat.le_refl _, by unfold maxLen; omega, rfl, rfl⟩⟩
set_option maxRecDepth 100000 in
set_option maxHeartbeats 1000000 in
theorem times_w {w : World} {va : Value} {u d : Nat} (hA : DgR w va (pc u)) (hd : d < 1000000000) (l1 : (pc u).length ≤ 400000000) :
    Calls Tryz.prog 106 #[va, .int .i64 d] w fun e w' => ∃ v, e = .returned v ∧ DgR w' v (pc (u * d)) ∧ Ext w w' := by
  obtain ⟨ga, la, c1, rfl⟩ := row_shape hA.row
  have hEw := (Ext.refl w).alloc (.cells #[.int .i64 d] 3)
  have h1 : DgR (w.alloc (.cells #[.int .i64 d] 3)) (.slice (some ⟨w.heap.size, 0, none⟩) 1 1) [d] := by
    exact (show RowV w.heap.size _ _ (nz [d]) from row_lit w (d : Int) (Nat.le_refl _)).dg
  have hs9 : small9 [d] := fun x hx => by rw [List.mem_singleton.1 hx]; exact hd
  have ht := Lib.hid (trim_v (b := false) h1 (by simp) hs9)
  have HA := Lib.hid (hA.ext hEw)
  clear hA h1 hs9
  go_enter Tryz.func106, Tryz.ntmps106
  go_wp2_with fail
  refine ht.out.mono ?_
  rintro e W5 ⟨v5, rfl, hv5, hE5⟩
  have e5 : sgn false (vP [d]) = (d : Int) := by simp [sgn, vP]
  rw [e5] at hv5
  have hm := Lib.hid (mulW_w (whr_dig (HA.out.ext hE5)) hv5 (by rw [Int.natAbs_natCast]; exact l1) (by
    rw [Int.natAbs_natCast]
    exact Nat.le_trans (pc_length_le (k := 1) (by simpa using hd)) (by omega)))
  obtain ⟨b5, g5, n5, c5, rfl⟩ := hv5.shape
  clear ht hv5 e5
  go_wp2_with fail
  refine hm.out.mono ?_
  rintro e W6 ⟨v6, rfl, hv6, hE6⟩
  obtain ⟨d6, rfl, hd6⟩ := hv6
  rw [← Int.natCast_mul, Int.natAbs_natCast] at hd6
  have Hd6 := Lib.hid hd6
  obtain ⟨g6, n6, c6, rfl⟩ := row_shape hd6.row
  generalize decide ((u : Int) * (d : Int) < 0) = b6 at *
  have hfd := field_w b6 g6 n6 c6
  clear hm hd6
  go_wp2_with fail
  go_ret
  exact ⟨_, rfl, Hd6.out, (hEw.trans hE5).trans hE6⟩
end Go.Proofs.YthmhmkkcjlgbjaaGreatDoor
