/- Part 31 of the proof of the claim: contracts of the functions that it reaches, and plain laws; no condition. -/
import Derived.Test.YtnmmglnadnfoiaaGreatDoorV30
import Derived.Test.YtnmmglnadnfoiaaGreatDoorCards
import Derived.Test.YtnmmglnadnfoiaaGreatDoorTie
import Derived.SevenTiedAt
/- schismalaw44.LayoutAdds: the law returns true for all arguments, and they read as they did. No condition but what the card itself prints. -/
namespace Go.Proofs.YtnmmglnadnfoiaaGreatDoor
open Go.ChangeShapes Go.WideShapes Go.ChangeAt Go.WideMaps Go.WideElems Go.RowKit Go.Deep
theorem okWide_arr {P : Program} {w : World} {r : Reach} {base : Nat} {t e : TypeId} {n : Nat} {v : Value} (ht : P.underlying t = some (.array n e)) (h : Value.okWide P w r base t v) : ∃ cs, v = .agg cs ∧ cs.size = P.cellsOf t := by
  simp only [Value.okWide, ht] at h
  obtain ⟨cs, h1, h2, _⟩ := h
  exact ⟨cs, h1, h2⟩
theorem fr_ca2 : Tryz.prog.cellsOf 77 = 2 := by kernel_rfl
theorem arr2_open {H : Type} {enc : TypeId × Value → H} {W : World} {base : Nat} {sp : Nat → Bool} {held : Bool} {fuel : Nat} {cs : Array Value} {x : DataW H × List MemPlace} (hs : cs.size = 2)
    (h : DataW.trod enc Tryz.prog W base sp held fuel 77 cs.toList = some x) : ∃ z0 z1 : Int, cs = #[.int .i8 z0, .int .i8 z1] ∧ (-128 ≤ z0 ∧ z0 ≤ 127) ∧ (-128 ≤ z1 ∧ z1 ≤ 127) := by
  have hE := i8_cells Tryz.underlying77 h
  obtain ⟨z0, k0, b0⟩ := hE 0 (by omega)
  obtain ⟨z1, k1, b1⟩ := hE 1 (by omega)
  refine ⟨z0, z1, ?_, b0, b1⟩
  obtain ⟨l⟩ := cs
  match l, hs with
  | [c0, c1], _ =>
    simp at k0 k1
    subst k0 k1
    rfl
theorem fr_ca3 : Tryz.prog.cellsOf 23 = 3 := by kernel_rfl
theorem arr3_open {H : Type} {enc : TypeId × Value → H} {W : World} {base : Nat} {sp : Nat → Bool} {held : Bool} {fuel : Nat} {cs : Array Value} {x : DataW H × List MemPlace} (hs : cs.size = 3)
    (h : DataW.trod enc Tryz.prog W base sp held fuel 23 cs.toList = some x) : ∃ z0 z1 z2 : Int, cs = #[.int .i8 z0, .int .i8 z1, .int .i8 z2] ∧ (-128 ≤ z0 ∧ z0 ≤ 127) ∧ (-128 ≤ z1 ∧ z1 ≤ 127) ∧ (-128 ≤ z2 ∧ z2 ≤ 127) := by
  have hE := i8_cells Tryz.underlying23 h
  obtain ⟨z0, k0, b0⟩ := hE 0 (by omega)
  obtain ⟨z1, k1, b1⟩ := hE 1 (by omega)
  obtain ⟨z2, k2, b2⟩ := hE 2 (by omega)
  refine ⟨z0, z1, z2, ?_, b0, b1, b2⟩
  obtain ⟨l⟩ := cs
  match l, hs with
  | [c0, c1, c2], _ =>
    simp at k0 k1 k2
    subst k0 k1 k2
    rfl
set_option maxRecDepth 100000 in
set_option maxHeartbeats 2000000 in
theorem layoutAdds_lifted (os : Os) (started : os.Started) (H : Type) (enc : TypeId × Value → H) :
    ReturnsInHanded {} Tryz.checked os 12 .any (fun w args => (Rows.layoutAddsSpec.pre enc Tryz.prog Tryz.f12 [] false w args ∧ laidMetH Tryz.prog fr_list w) ∧ sizedMet enc Tryz.prog Tryz.f12 (OpenSpec.ofChange Rows.layoutAddsSpec) false w args)
      (Rows.layoutAddsSpec.post enc Tryz.prog Tryz.f12 false true false false) := by
  refine returnsInHanded_of_change_and (C := Tryz.checked) (X := fun w _ => laidMetH Tryz.prog fr_list w) (fun _ _ _ hh h => h.of_heap hh) fr_own started (by kernel_rfl) Tryz.func12
    (ChangeSpec.witness_shaped (enc := enc) (C := Tryz.checked) (os := os) (X := fun w _ => laidMetH Tryz.prog fr_list w) false (World.doorLaid Tryz.prog 400 os) #[.agg #[.bool false, .int .u8 0, .int .i8 0, .int .i8 0, .int .i8 0, .int .i8 0, .int .i8 0, .int .i8 0, .int .i8 0, .int .i8 0, .int .i8 0], .agg #[.int .i8 0, .int .i8 0], .agg #[.int .i8 0, .int .i8 0, .int .i8 0]] 8 rfl (World.shaped_of_RefB (by kernel_rfl) (by kernel_rfl)) (by kernel_rfl) (by kernel_rfl) (by kernel_rfl) (door_met os _)) ?_
  intro W base args ds gs before hval0 hW _ _ hL _
  have hval : ∀ (j : Nat) t v, Tryz.f12.params[j]? = some t → args[j]? = some v → Value.okWide Tryz.prog W .any base t v := hval0
  have hW' := hW
  obtain ⟨p, q, hA0, hV, rfl, hfz, hnd⟩ := hW
  have hA : DataW.TrodAll enc Tryz.prog W 0 (fun _ => true) true Tryz.f12.params.toList args.toList ds p := hA0
  rw [Tryz.params12] at hA hval
  obtain ⟨v0, v1, v2, d0, d1, d2, p0, p1, p2, rfl, rfl, rfl, h0, h1, h2⟩ := trodAll_three hA
  obtain ⟨rfl, rfl⟩ := trodVars_none hV
  obtain ⟨cs0, rfl, hs0⟩ := okWide_struct Tryz.underlying25 (hval 0 25 v0 rfl rfl)
  rw [fr_cPl] at hs0
  obtain ⟨cs1, rfl, hs1⟩ := okWide_arr Tryz.underlying77 (hval 1 77 v1 rfl rfl)
  rw [fr_ca2] at hs1
  obtain ⟨cs2, rfl, hs2⟩ := okWide_arr Tryz.underlying23 (hval 2 23 v2 rfl rfl)
  rw [fr_ca3] at hs2
  have h0k := h0
  have h1k := h1
  have h2k := h2
  obtain ⟨fuel0, hf0⟩ := h0
  obtain ⟨P0, hPv0, hP0⟩ := plan_open hs0 hf0
  rw [hPv0] at h0k hW' ⊢
  obtain ⟨fuel1, hf1⟩ := h1
  obtain ⟨z1_0, z1_1, rfl, b1_0, b1_1⟩ := arr2_open hs1 hf1
  obtain ⟨fuel2, hf2⟩ := h2
  obtain ⟨z2_0, z2_1, z2_2, rfl, b2_0, b2_1, b2_2⟩ := arr3_open hs2 hf2
  clear hA0 hval0 hf0 hf1 hf2
  simp only [List.append_nil] at hW'
  have hlt : ∀ z ∈ p0 ++ p1 ++ p2, z.block < W.heap.size := fun z hz => by simpa using hW'.lt z hz
  refine (lad_walk hP0 b1_0 b1_1 b2_0 b2_1 b2_2 (laid_of hL)).mono ?_
  rintro e W' ⟨rfl, hE⟩
  have e1 : Rows.layoutAddsSpec.fn H ([d0, d1, d2] ++ []) = { results := [.lit (.bool true)], args := [d0, d1, d2] } := rfl
  refine ⟨_, rfl, _, _, _, [], p0 ++ p1 ++ p2, [], hW', ?_, ?_, ?_, hE.frame _, fun h => by cases h⟩
  · rw [e1]; exact trodAll_mk1 (shut_bool Tryz.underlying4 true)
  · rw [e1, List.append_assoc]; exact trodAll_mk3 (Below.trod fr_laidOut (by kernel_rfl) (of_decide_eq_true (by kernel_rfl)) h0k hE fun x hx => hlt x (by simp [hx])) (Below.trod fr_laidOut (by kernel_rfl) (of_decide_eq_true (by kernel_rfl)) h1k hE fun x hx => hlt x (by simp [hx])) (Below.trod fr_laidOut (by kernel_rfl) (of_decide_eq_true (by kernel_rfl)) h2k hE fun x hx => hlt x (by simp [hx]))
  · rw [e1]; rfl
theorem layoutAdds_holds : Rows.LayoutAddsSaid :=
  OpenClaim.holds_of_wide 12 Tryz.f12 rfl rfl rfl rfl rfl rfl rfl ⟨rfl, rfl, rfl, rfl, rfl⟩ rfl rfl rfl rfl rfl (by kernel_rfl) Tryz.func12 (by kernel_rfl)
    (of_decide_eq_true (by kernel_rfl)) (by unfold Func.isWrapper; first | (rw [if_pos (by decide +kernel)]; kernel_rfl) | (rw [if_neg (by decide +kernel)]; exact ⟨rfl, rfl⟩))
    (fun os started H enc _ => layoutAdds_lifted os started H enc)
theorem layoutAdds_card : Rows.LayoutAddsCardSaid :=
  Claim7.holds_tied_plain_at .later [] [.data, .data, .data, .sentinel, .sentinel] true Rows.layoutAddsCard.stood.harness true
    layoutAdds_holds (fun _ h => by cases h) (by kernel_rfl) (fun _ h => by cases h) layoutAdds_row_tie rfl ⟨rfl, rfl⟩ (by kernel_rfl) rfl
    (fun f fn hf hfn => by
      obtain rfl : f = 12 := Option.some.inj ((show Tryz.prog.funcNamed "schisma/schismalaw44.LayoutAdds" = some 12 by kernel_rfl).symm.trans hf) |>.symm
      obtain rfl : fn = Tryz.f12 := (Option.some.inj (Tryz.func12.symm.trans hfn)).symm
      exact ⟨by kernel_rfl, fun j t ht => by
        rw [Tryz.params12] at ht
        have hm : t ∈ [25, 77, 23] := by simpa using Array.mem_of_getElem? ht
        have hall : ([25, 77, 23].all fun u => !Tryz.prog.wantsStandIn u) = true := by kernel_rfl
        exact (show Tryz.prog.wantsStandIn t = false by simpa using List.all_eq_true.1 hall t hm)⟩)
    (by kernel_rfl)
#print axioms layoutAdds_card
end Go.Proofs.YtnmmglnadnfoiaaGreatDoor
