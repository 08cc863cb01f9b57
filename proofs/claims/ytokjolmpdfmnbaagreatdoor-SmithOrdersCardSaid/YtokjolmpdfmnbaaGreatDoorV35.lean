/- Part 35 of the proof of the claim: contracts of the functions that it reaches, and plain laws; no condition. -/
import Derived.Test.YtokjolmpdfmnbaaGreatDoorV34
import Derived.Test.YtokjolmpdfmnbaaGreatDoorCards
import Derived.Test.YtokjolmpdfmnbaaGreatDoorTie
import Derived.SevenTiedAt
namespace Go.Proofs.YtokjolmpdfmnbaaGreatDoor
open Go.ChangeShapes Go.WideShapes Go.ChangeAt Go.WideMaps Go.WideElems Go.RowKit Go.Deep
theorem fr_ca3 : Tryz.prog.cellsOf 26 = 3 := by kernel_rfl
theorem arr3_open {H : Type} {enc : TypeId × Value → H} {W : World} {base : Nat} {sp : Nat → Bool} {held : Bool} {fuel : Nat} {cs : Array Value} {x : DataW H × List MemPlace} (hs : cs.size = 3)
    (h : DataW.trod enc Tryz.prog W base sp held fuel 26 cs.toList = some x) : ∃ z0 z1 z2 : Int, cs = #[.int .i8 z0, .int .i8 z1, .int .i8 z2] ∧ (-128 ≤ z0 ∧ z0 ≤ 127) ∧ (-128 ≤ z1 ∧ z1 ≤ 127) ∧ (-128 ≤ z2 ∧ z2 ≤ 127) := by
  have hE := i8_cells Tryz.underlying26 h
  obtain ⟨z0, k0, b0⟩ := hE 0 (by omega)
  obtain ⟨z1, k1, b1⟩ := hE 1 (by omega)
  obtain ⟨z2, k2, b2⟩ := hE 2 (by omega)
  refine ⟨z0, z1, z2, ?_, b0, b1, b2⟩
  obtain ⟨l⟩ := cs
  match l, hs with
  | [c0, c1, c2], _ =>
    simp at k0 k1 k2
    subst k0 k1 k2
    rfl
set_option maxRecDepth 100000 in
set_option maxHeartbeats 2000000 in
theorem smithOrders_lifted (os : Os) (started : os.Started) (H : Type) (enc : TypeId × Value → H) :
    ReturnsInHanded {} Tryz.checked os 3 .any (fun w args => (Rows.smithOrdersSpec.pre enc Tryz.prog Tryz.f3 [] false w args ∧ laidMetH Tryz.prog fr_list w) ∧ sizedMet enc Tryz.prog Tryz.f3 (OpenSpec.ofChange Rows.smithOrdersSpec) false w args)
      (Rows.smithOrdersSpec.post enc Tryz.prog Tryz.f3 false true false false) := by
  refine returnsInHanded_of_change_and (C := Tryz.checked) (X := fun w _ => laidMetH Tryz.prog fr_list w) (fun _ _ _ hh h => h.of_heap hh) fr_own started (by kernel_rfl) Tryz.func3
    (ChangeSpec.witness_shaped (enc := enc) (C := Tryz.checked) (os := os) (X := fun w _ => laidMetH Tryz.prog fr_list w) false (World.doorLaid Tryz.prog 400 os) #[.agg #[.int .u8 0, .int .u8 0, .int .i8 0, .int .i8 0, .int .i8 0, .int .i8 0, .int .i8 0, .int .i8 0, .int .i8 0, .int .i8 0, .int .i8 0], .agg #[.int .i8 0, .int .i8 0, .int .i8 0]] 8 rfl (World.shaped_of_RefB (by kernel_rfl) (by kernel_rfl)) (by kernel_rfl) (by kernel_rfl) (by kernel_rfl) (door_met os _)) ?_
  intro W base args ds gs before hval0 hW _ _ hL _
  have hval : ∀ (j : Nat) t v, Tryz.f3.params[j]? = some t → args[j]? = some v → Value.okWide Tryz.prog W .any base t v := hval0
  have hW' := hW
  obtain ⟨p, q, hA0, hV, rfl, hfz, hnd⟩ := hW
  have hA : DataW.TrodAll enc Tryz.prog W 0 (fun _ => true) true Tryz.f3.params.toList args.toList ds p := hA0
  rw [Tryz.params3] at hA hval
  obtain ⟨v0, v1, d0, d1, p0, p1, rfl, rfl, rfl, h0, h1⟩ := trodAll_two hA
  obtain ⟨rfl, rfl⟩ := trodVars_none hV
  obtain ⟨cs0, rfl, hs0⟩ := okWide_struct Tryz.underlying25 (hval 0 25 v0 rfl rfl)
  rw [fr_cSh] at hs0
  obtain ⟨cs1, rfl, hs1⟩ := okWide_arr Tryz.underlying26 (hval 1 26 v1 rfl rfl)
  rw [fr_ca3] at hs1
  have h0k := h0
  have h1k := h1
  obtain ⟨fuel0, hf0⟩ := h0
  obtain ⟨R0, C0, e0_0, e0_1, e0_2, e0_3, e0_4, e0_5, e0_6, e0_7, e0_8, rfl, hG0⟩ := shape_open hs0 hf0
  obtain ⟨fuel1, hf1⟩ := h1
  obtain ⟨z1_0, z1_1, z1_2, rfl, b1_0, b1_1, b1_2⟩ := arr3_open hs1 hf1
  clear hA0 hval0 hf0 hf1
  simp only [List.append_nil] at hW'
  have hlt : ∀ z ∈ p0 ++ p1, z.block < W.heap.size := fun z hz => by simpa using hW'.lt z hz
  refine (os_walk hG0 b1_0 b1_1 b1_2 (laid_of hL)).mono ?_
  rintro e W' ⟨rfl, hE⟩
  have e1 : Rows.smithOrdersSpec.fn H ([d0, d1] ++ []) = { results := [.lit (.bool true)], args := [d0, d1] } := rfl
  refine ⟨_, rfl, _, _, _, [], p0 ++ p1, [], hW', ?_, ?_, ?_, hE.frame _, fun h => by cases h⟩
  · rw [e1]; exact trodAll_mk1 (shut_bool Tryz.underlying4 true)
  · rw [e1]; exact trodAll_mk2 (Below.trod fr_laidOut (by kernel_rfl) (of_decide_eq_true (by kernel_rfl)) h0k hE fun x hx => hlt x (by simp [hx])) (Below.trod fr_laidOut (by kernel_rfl) (of_decide_eq_true (by kernel_rfl)) h1k hE fun x hx => hlt x (by simp [hx]))
  · rw [e1]; rfl
set_option maxHeartbeats 20000000 in
theorem smithOrders_holds : Rows.SmithOrdersSaid :=
  OpenClaim.holds_of_wide 3 Tryz.f3 rfl rfl rfl rfl rfl rfl rfl ⟨rfl, rfl, rfl, rfl, rfl⟩ rfl rfl rfl rfl rfl (by as_aux_lemma => kernel_rfl) Tryz.func3 (by
      unfold joinedFacts
      simp only [Bool.and_eq_true]
      repeat' apply And.intro
      all_goals (as_aux_lemma => kernel_rfl))
    (of_decide_eq_true (by kernel_rfl)) (by unfold Func.isWrapper; first | (rw [if_pos (by decide +kernel)]; kernel_rfl) | (rw [if_neg (by decide +kernel)]; exact ⟨rfl, rfl⟩))
    (fun os started H enc _ => smithOrders_lifted os started H enc)
set_option maxHeartbeats 20000000 in
theorem smithOrders_card : Rows.SmithOrdersCardSaid :=
  Claim7.holds_tied_plain_at .later [] [.data, .data, .data, .sentinel, .sentinel] true Rows.smithOrdersCard.stood.harness true
    smithOrders_holds (fun _ h => by cases h) (by as_aux_lemma => kernel_rfl) (fun _ h => by cases h) smithOrders_row_tie rfl ⟨rfl, rfl⟩ (by as_aux_lemma => kernel_rfl) rfl
    (fun f fn hf hfn => by
      obtain rfl : f = 3 := Option.some.inj ((show Tryz.prog.funcNamed "schisma/schismalaw08.SmithOrders" = some 3 by as_aux_lemma => kernel_rfl).symm.trans hf) |>.symm
      obtain rfl : fn = Tryz.f3 := (Option.some.inj (Tryz.func3.symm.trans hfn)).symm
      exact ⟨by as_aux_lemma => kernel_rfl, fun j t ht => by
        rw [Tryz.params3] at ht
        have hm : t ∈ [25, 26] := by simpa using Array.mem_of_getElem? ht
        have hall : ([25, 26].all fun u => !Tryz.prog.wantsStandIn u) = true := by as_aux_lemma => kernel_rfl
        exact (show Tryz.prog.wantsStandIn t = false by simpa using List.all_eq_true.1 hall t hm)⟩)
    (by as_aux_lemma => kernel_rfl)
#print axioms smithOrders_card
end Go.Proofs.YtokjolmpdfmnbaaGreatDoor
