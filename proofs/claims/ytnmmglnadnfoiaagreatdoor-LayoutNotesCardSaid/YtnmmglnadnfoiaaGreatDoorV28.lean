/- Part 28 of the proof of the claim: contracts of the functions that it reaches, and plain laws; no condition. -/
import Derived.Test.YtnmmglnadnfoiaaGreatDoorV26
import Derived.Test.YtnmmglnadnfoiaaGreatDoorV27
import Derived.Test.YtnmmglnadnfoiaaGreatDoorCards
import Derived.Test.YtnmmglnadnfoiaaGreatDoorTie
import Derived.SevenTiedAt
/- schismalaw44: LayoutNotes. -/
namespace Go.Proofs.YtnmmglnadnfoiaaGreatDoor
open Go.RowKit Go.Sort
theorem same_at {w : World} {B B' g g' n : Nat} {x : List Int} (h : OwnV 3 B w g n (is x)) (h' : OwnV 3 B' w g' n (is x)) (hl : x.length = n) (hn : n ≤ 1000) :
    Calls Tryz.prog 18 #[slv g n n, slv g' n n] w fun e w' => e = .returned (.bool true) ∧ Ext w w' :=
  same_ok (a := x) (b := x) ⟨_, g, 0, n, by rw [hl], by omega, h.sl⟩ ⟨_, g', 0, n, by rw [hl], by omega, h'.sl⟩ (by omega) rfl
set_option maxRecDepth 100000 in
set_option maxHeartbeats 2000000 in
theorem nt_walk {w : World} {P : Pl} {x y : Int} (hP : P.ok) (hL : Laid w) (hx : I64 x) (hy : I64 y) :
    Calls Tryz.prog 3 #[P.v, .agg #[.int .i64 x, .int .i64 y]] w fun e w' => e = .returned (.bool true) ∧ Ext w w' := by
  have hkn := Lib.hid (fun W (hW : Ext w W) => known44_any (hL.ext hW))
  have hmk := Lib.hid (fun W => make44 (w := W) hP)
  have hn3 := P.n3
  have hno := Lib.hid (fun W g1 g2 g3 (h : PlP W P g1 g2 g3) => Note_any h hx hy (fun hf => by
    unfold farB at hf
    simp only [Bool.or_eq_false_iff, decide_eq_false_iff_not] at hf
    exact atL_chk (by omega) (by omega)))
  have hnn := Lib.hid (fun W g1 g2 g3 (h : PlP W P g1 g2 g3) (hx : -1000000 ≤ x ∧ x ≤ 1000000) (hy : -1000000 ≤ y ∧ y ≤ 1000000) => note44_any h hx hy)
  have Hol := Lib.hid (atL_len (P := P) x y)
  have hX : Ext w ((w.alloc (.cells #[.bool P.hx, .int .u8 P.m, .int .i8 P.a, .int .i8 P.b, .int .i8 P.c, .int .i8 P.d, .int .i8 P.e, .int .i8 P.f, .int .i8 P.p, .int .i8 P.q, .int .i8 P.s] 25)).alloc (.cells #[.int .i64 x, .int .i64 y] 27)) := ((Ext.refl w).alloc _).alloc _
  have hpc : plC ((w.alloc (.cells #[.bool P.hx, .int .u8 P.m, .int .i8 P.a, .int .i8 P.b, .int .i8 P.c, .int .i8 P.d, .int .i8 P.e, .int .i8 P.f, .int .i8 P.p, .int .i8 P.q, .int .i8 P.s] 25)).alloc (.cells #[.int .i64 x, .int .i64 y] 27)) w.heap.size P := (plC_new w P).ext ((Ext.refl _).alloc _)
  have e0 : ((w.alloc (.cells #[.bool P.hx, .int .u8 P.m, .int .i8 P.a, .int .i8 P.b, .int .i8 P.c, .int .i8 P.d, .int .i8 P.e, .int .i8 P.f, .int .i8 P.p, .int .i8 P.q, .int .i8 P.s] 25)).alloc (.cells #[.int .i64 x, .int .i64 y] 27)).cell? ⟨w.heap.size + 1, 0, none⟩ = some (.int .i64 x) := by go_simp
  have e1 : ((w.alloc (.cells #[.bool P.hx, .int .u8 P.m, .int .i8 P.a, .int .i8 P.b, .int .i8 P.c, .int .i8 P.d, .int .i8 P.e, .int .i8 P.f, .int .i8 P.p, .int .i8 P.q, .int .i8 P.s] 25)).alloc (.cells #[.int .i64 x, .int .i64 y] 27)).cell? ⟨w.heap.size + 1, 1, none⟩ = some (.int .i64 y) := by go_simp
  obtain ⟨bp, hbp⟩ : ∃ bp, bp = w.heap.size := ⟨_, rfl⟩
  rw [← hbp] at hpc e0 e1
  clear hL hP
  by_cases hf : farB x y = true
  · have hc : x > 1000000 ∨ ¬ x > 1000000 ∧ x < -1000000 ∨ ¬ x > 1000000 ∧ ¬ x < -1000000 ∧ y > 1000000 ∨ ¬ x > 1000000 ∧ ¬ x < -1000000 ∧ ¬ y > 1000000 ∧ y < -1000000 := by
      have hf2 := hf
      unfold farB at hf2
      simp only [Bool.or_eq_true, decide_eq_true_eq] at hf2
      omega
    have Hf := Lib.hid hf
    clear hf hx hy hnn Hol
    go_enter Tryz.func3, Tryz.ntmps3
    go_wp2_with fail
    refine (hkn.out _ hX).mono ?_
    rintro e w1 ⟨rfl, hE1⟩
    have hX1 := hX.trans hE1
    obtain ⟨k0, k1, k2, k3, k4, k5, k6, k7, k8, k9, k10⟩ := hpc.ext hE1
    replace e0 := hE1.cell e0
    replace e1 := hE1.cell e1
    rw [← hbp]
    clear hE1 hX hpc hbp hkn
    go_wp2_with fail
    refine (hmk.out _).mono ?_
    rintro e w2 ⟨g1, g2, g3, rfl, hP2, hE2⟩
    replace e0 := hE2.cell e0
    replace e1 := hE2.cell e1
    have dl := World.block_lt_of_cell? _ _ e0
    have hX2 := hX1.trans hE2
    have hX3 := hX2.alloc (.cells #[.int .i64 P.k, slv g1 P.n P.n, slv g2 P.n P.n, slv g3 P.n P.n] 32)
    have hno3 := Lib.hid (hno.out _ g1 g2 g3 (hP2.ext ((Ext.refl w2).alloc (.cells #[.int .i64 P.k, slv g1 P.n P.n, slv g2 P.n P.n, slv g3 P.n P.n] 32))))
    have f0 := ((Ext.refl w2).alloc (.cells #[.int .i64 P.k, slv g1 P.n P.n, slv g2 P.n P.n, slv g3 P.n P.n] 32)).cell e0
    have f1 := ((Ext.refl w2).alloc (.cells #[.int .i64 P.k, slv g1 P.n P.n, slv g2 P.n P.n, slv g3 P.n P.n] 32)).cell e1
    clear k0 k1 k2 k3 k4 k5 k6 k7 k8 k9 k10 hP2 hE2 hX1 hmk hno
    go_wp2_with fail
    refine hno3.out.mono ?_
    rintro e w4 ⟨hp, hE4⟩
    rw [Hf.out, if_pos rfl] at hp
    subst hp
    have hX4 := hX3.trans hE4
    replace f0 := hE4.cell f0
    replace f1 := hE4.cell f1
    clear hE4 hno3 e0 e1 hX3
    rcases hc with h1 | ⟨h1, h2⟩ | ⟨h1, h2, h3⟩ | ⟨h1, h2, h3, h4⟩
    all_goals
      go_wp2_with fail
      go_ret
      exact ⟨rfl, hX4⟩
  · have hb : (-1000000 ≤ x ∧ x ≤ 1000000) ∧ (-1000000 ≤ y ∧ y ≤ 1000000) := by
      have hf2 := hf
      unfold farB at hf2
      simp only [Bool.or_eq_true, decide_eq_true_eq] at hf2
      omega
    have hnn2 := Lib.hid (fun W g1 g2 g3 (h : PlP W P g1 g2 g3) => hnn.out W g1 g2 g3 h hb.1 hb.2)
    have Hf := Lib.hid (show farB x y = false by simpa using hf)
    have z1 : ¬ x > 1000000 := by omega
    have z2 : ¬ x < -1000000 := by omega
    have z3 : ¬ y > 1000000 := by omega
    have z4 : ¬ y < -1000000 := by omega
    clear hf hx hy hnn hb
    go_enter Tryz.func3, Tryz.ntmps3
    go_wp2_with fail
    refine (hkn.out _ hX).mono ?_
    rintro e w1 ⟨rfl, hE1⟩
    have hX1 := hX.trans hE1
    obtain ⟨k0, k1, k2, k3, k4, k5, k6, k7, k8, k9, k10⟩ := hpc.ext hE1
    replace e0 := hE1.cell e0
    replace e1 := hE1.cell e1
    rw [← hbp]
    clear hE1 hX hpc hbp hkn
    go_wp2_with fail
    refine (hmk.out _).mono ?_
    rintro e w2 ⟨g1, g2, g3, rfl, hP2, hE2⟩
    replace e0 := hE2.cell e0
    replace e1 := hE2.cell e1
    have dl := World.block_lt_of_cell? _ _ e0
    have hX2 := hX1.trans hE2
    have hX3 := hX2.alloc (.cells #[.int .i64 P.k, slv g1 P.n P.n, slv g2 P.n P.n, slv g3 P.n P.n] 32)
    have HP3 := Lib.hid (hP2.ext ((Ext.refl w2).alloc (.cells #[.int .i64 P.k, slv g1 P.n P.n, slv g2 P.n P.n, slv g3 P.n P.n] 32)))
    have hno3 := Lib.hid (hno.out _ g1 g2 g3 HP3.out)
    have f0 := ((Ext.refl w2).alloc (.cells #[.int .i64 P.k, slv g1 P.n P.n, slv g2 P.n P.n, slv g3 P.n P.n] 32)).cell e0
    have f1 := ((Ext.refl w2).alloc (.cells #[.int .i64 P.k, slv g1 P.n P.n, slv g2 P.n P.n, slv g3 P.n P.n] 32)).cell e1
    have hlc := layC_new w2 P.k P.n g1 P.n g2 P.n g3 P.n
    clear k0 k1 k2 k3 k4 k5 k6 k7 k8 k9 k10 hP2 hE2 hX1 hmk hno
    go_wp2_with fail
    refine hno3.out.mono ?_
    rintro e w4 ⟨hp, hE4⟩
    rw [Hf.out, if_neg (by decide)] at hp
    obtain ⟨gx, rfl, hO⟩ := hp
    have hX4 := hX3.trans hE4
    replace f0 := hE4.cell f0
    replace f1 := hE4.cell f1
    obtain ⟨c0, c1, c2, c3⟩ := hlc.ext hE4
    have HO := Lib.hid hO
    have hn4 := Lib.hid (hnn2.out _ g1 g2 g3 (HP3.out.ext hE4))
    clear hE4 hno3 e0 e1 hX3 hO hlc hnn2
    go_wp2_with fail
    refine hn4.out.mono ?_
    rintro e w5 ⟨gy, rfl, hO5, hE5⟩
    have hsm := Lib.hid (same_at (HO.out.ext hE5) hO5 Hol.out (by omega))
    have hX5 := hX4.trans hE5
    clear hO5 hE5 hn4 HO
    go_wp2_with fail
    refine hsm.out.mono ?_
    rintro e w6 ⟨rfl, hE6⟩
    have hX6 := hX5.trans hE6
    go_wp2_with fail
    go_ret
    exact ⟨rfl, hX6⟩
end Go.Proofs.YtnmmglnadnfoiaaGreatDoor
/- schismalaw44.LayoutNotes: for every plan and key the law returns true, and they read as they did. No condition but what the card itself prints. -/
namespace Go.Proofs.YtnmmglnadnfoiaaGreatDoor
open Go.ChangeShapes Go.WideShapes Go.ChangeAt Go.WideMaps Go.WideElems Go.RowKit Go.Deep
set_option maxRecDepth 100000 in
set_option maxHeartbeats 2000000 in
theorem nts_lifted (os : Os) (started : os.Started) (H : Type) (enc : TypeId × Value → H) :
    ReturnsInHanded {} Tryz.checked os 3 .any (fun w args => (Rows.layoutNotesSpec.pre enc Tryz.prog Tryz.f3 [] false w args ∧ laidMetH Tryz.prog fr_list w) ∧ sizedMet enc Tryz.prog Tryz.f3 (OpenSpec.ofChange Rows.layoutNotesSpec) false w args)
      (Rows.layoutNotesSpec.post enc Tryz.prog Tryz.f3 false true false false) := by
  refine returnsInHanded_of_change_and (C := Tryz.checked) (X := fun w _ => laidMetH Tryz.prog fr_list w) (fun _ _ _ hh h => h.of_heap hh) fr_own started (by kernel_rfl) Tryz.func3
    (ChangeSpec.witness_shaped (enc := enc) (C := Tryz.checked) (os := os) (X := fun w _ => laidMetH Tryz.prog fr_list w) false (World.doorLaid Tryz.prog 400 os) #[.agg #[.bool false, .int .u8 0, .int .i8 0, .int .i8 0, .int .i8 0, .int .i8 0, .int .i8 0, .int .i8 0, .int .i8 0, .int .i8 0, .int .i8 0], .agg #[.int .i64 0, .int .i64 0]] 8 rfl (World.shaped_of_RefB (by kernel_rfl) (by kernel_rfl)) (by kernel_rfl) (by kernel_rfl) (by kernel_rfl) (door_met os _)) ?_
  intro W base args ds gs before hval0 hW _ _ hL _
  have hval : ∀ (j : Nat) t v, Tryz.f3.params[j]? = some t → args[j]? = some v → Value.okWide Tryz.prog W .any base t v := hval0
  have hW' := hW
  obtain ⟨p, q, hA0, hV, rfl, hfz, hnd⟩ := hW
  have hA : DataW.TrodAll enc Tryz.prog W 0 (fun _ => true) true Tryz.f3.params.toList args.toList ds p := hA0
  rw [Tryz.params3] at hA hval
  obtain ⟨v0, v1, d0, d1, p0, p1, rfl, rfl, rfl, h0, h1⟩ := trodAll_two hA
  obtain ⟨rfl, rfl⟩ := trodVars_none hV
  obtain ⟨cs0, rfl, hs0⟩ := okWide_struct Tryz.underlying25 (hval 0 25 v0 rfl rfl)
  rw [fr_cPl] at hs0
  obtain ⟨bs, rfl, hs1⟩ := okWide_struct Tryz.underlying27 (hval 1 27 v1 rfl rfl)
  rw [fr_cK] at hs1
  have h0k := h0
  have h1k := h1
  obtain ⟨fuel0, hf0⟩ := h0
  obtain ⟨fuel1, hf1⟩ := h1
  obtain ⟨P, hPv, hP⟩ := plan_open hs0 hf0
  obtain ⟨x, y, rfl, hx, hy⟩ := key_open hs1 hf1
  rw [hPv] at h0k hW' ⊢
  clear hA0 hval0 hf1 hf0
  simp only [List.append_nil] at hW'
  have hlt : ∀ z ∈ p0 ++ p1, z.block < W.heap.size := fun z hz => by simpa using hW'.lt z hz
  refine (nt_walk hP (laid_of hL) hx hy).mono ?_
  rintro e W' ⟨rfl, hE⟩
  have e1 : Rows.layoutNotesSpec.fn H ([d0, d1] ++ []) = { results := [.lit (.bool true)], args := [d0, d1] } := rfl
  refine ⟨_, rfl, _, _, _, [], p0 ++ p1, [], hW', ?_, ?_, ?_, hE.frame _, fun h => by cases h⟩
  · rw [e1]; exact trodAll_mk1 (shut_bool Tryz.underlying4 true)
  · rw [e1]; exact trodAll_mk2 (Below.trod fr_laidOut (by kernel_rfl) (of_decide_eq_true (by kernel_rfl)) h0k hE fun x hx => hlt x (List.mem_append_left _ hx)) (Below.trod fr_laidOut (by kernel_rfl) (of_decide_eq_true (by kernel_rfl)) h1k hE fun x hx => hlt x (List.mem_append_right _ hx))
  · rw [e1]; rfl
theorem nts_holds : Rows.LayoutNotesSaid :=
  OpenClaim.holds_of_wide 3 Tryz.f3 rfl rfl rfl rfl rfl rfl rfl ⟨rfl, rfl, rfl, rfl, rfl⟩ rfl rfl rfl rfl rfl (by kernel_rfl) Tryz.func3 (by kernel_rfl)
    (of_decide_eq_true (by kernel_rfl)) (by unfold Func.isWrapper; first | (rw [if_pos (by decide +kernel)]; kernel_rfl) | (rw [if_neg (by decide +kernel)]; exact ⟨rfl, rfl⟩))
    (fun os started H enc _ => nts_lifted os started H enc)
theorem layoutNotes_card : Rows.LayoutNotesCardSaid :=
  Claim7.holds_tied_plain_at .later [] [.data, .data, .data, .sentinel, .sentinel] true Rows.layoutNotesCard.stood.harness true
    nts_holds (fun _ h => by cases h) (by kernel_rfl) (fun _ h => by cases h) layoutNotes_row_tie rfl ⟨rfl, rfl⟩ (by kernel_rfl) rfl
    (fun f fn hf hfn => by
      obtain rfl : f = 3 := Option.some.inj ((show Tryz.prog.funcNamed "schisma/schismalaw44.LayoutNotes" = some 3 by kernel_rfl).symm.trans hf) |>.symm
      obtain rfl : fn = Tryz.f3 := (Option.some.inj (Tryz.func3.symm.trans hfn)).symm
      exact ⟨by kernel_rfl, fun j t ht => by
        rw [Tryz.params3] at ht
        have hm : t ∈ [25, 27] := by simpa using Array.mem_of_getElem? ht
        have hall : ([25, 27].all fun u => !Tryz.prog.wantsStandIn u) = true := by kernel_rfl
        exact (show Tryz.prog.wantsStandIn t = false by simpa using List.all_eq_true.1 hall t hm)⟩)
    (by kernel_rfl)
#print axioms layoutNotes_card
end Go.Proofs.YtnmmglnadnfoiaaGreatDoor
