/- Part 3, beside the shared parts, of the proof of the claim: contracts and plain laws; no condition. -/
import Derived.Test.YtnlajhjoakijmaaGreatDoorV01
import Derived.Test.YtnlajhjoakijmaaGreatDoorV02
import Derived.Test.YtnlajhjoakijmaaGreatDoorV03
import Derived.Test.YtnlajhjoakijmaaGreatDoorV04
import Derived.Test.YtnlajhjoakijmaaGreatDoorV05
import Derived.Test.YtnlajhjoakijmaaGreatDoorV06
import Derived.Test.YtnlajhjoakijmaaGreatDoorV07
import Derived.Test.YtnlajhjoakijmaaGreatDoorV08
import Derived.Test.YtnlajhjoakijmaaGreatDoorV09
import Derived.Test.YtnlajhjoakijmaaGreatDoorV10
import Derived.Test.YtnlajhjoakijmaaGreatDoorV11
import Derived.Test.YtnlajhjoakijmaaGreatDoorV12
import Derived.Test.YtnlajhjoakijmaaGreatDoorV13
import Derived.Test.YtnlajhjoakijmaaGreatDoorV14
import Derived.Test.YtnlajhjoakijmaaGreatDoorV15
import Derived.Test.YtnlajhjoakijmaaGreatDoorV16
import Derived.Test.YtnlajhjoakijmaaGreatDoorV17
import Derived.Test.YtnlajhjoakijmaaGreatDoorV18
import Derived.Test.YtnlajhjoakijmaaGreatDoorV19
import Derived.Test.YtnlajhjoakijmaaGreatDoorV20
import Derived.Test.YtnlajhjoakijmaaGreatDoorV21
import Derived.Test.YtnlajhjoakijmaaGreatDoorV22
import Derived.Test.YtnlajhjoakijmaaGreatDoorV23
import Derived.Test.YtnlajhjoakijmaaGreatDoorV24
import Derived.Test.YtnlajhjoakijmaaGreatDoorV25
import Derived.Test.YtnlajhjoakijmaaGreatDoorV26
import Derived.Test.YtnlajhjoakijmaaGreatDoorV27
import Derived.Test.YtnlajhjoakijmaaGreatDoorV28
import Derived.Test.YtnlajhjoakijmaaGreatDoorV29
import Derived.Test.YtnlajhjoakijmaaGreatDoorV30
import Derived.Test.YtnlajhjoakijmaaGreatDoorV31
import Derived.Test.YtnlajhjoakijmaaGreatDoorV32
import Derived.Test.YtnlajhjoakijmaaGreatDoorW01
import Derived.Test.YtnlajhjoakijmaaGreatDoorW02
import Derived.Test.YtnlajhjoakijmaaGreatDoorCards
import Derived.Test.YtnlajhjoakijmaaGreatDoorTie
import Derived.SevenTiedAt
namespace Go.Proofs.YtnlajhjoakijmaaGreatDoor
open Go.ChangeShapes Go.WideShapes Go.ChangeAt Go.WideMaps Go.WideElems Go.RowKit Go.Deep
set_option maxRecDepth 100000 in
set_option maxHeartbeats 2000000 in
theorem generatorErrors_lifted (os : Os) (started : os.Started) (H : Type) (enc : TypeId × Value → H) :
    ReturnsInHanded {} Tryz.checked os 11 .any (fun w args => (Rows.generatorErrorsSpec.pre enc Tryz.prog Tryz.f11 [] false w args ∧ laidMetH Tryz.prog fr_list w) ∧ sizedMet enc Tryz.prog Tryz.f11 (OpenSpec.ofChange Rows.generatorErrorsSpec) false w args)
      (Rows.generatorErrorsSpec.post enc Tryz.prog Tryz.f11 false true false false) := by
  refine returnsInHanded_of_change_and (C := Tryz.checked) (X := fun w _ => laidMetH Tryz.prog fr_list w) (fun _ _ _ hh h => h.of_heap hh) fr_own started (by kernel_rfl) Tryz.func11
    (ChangeSpec.witness_shaped (enc := enc) (C := Tryz.checked) (os := os) (X := fun w _ => laidMetH Tryz.prog fr_list w) false (World.doorLaid Tryz.prog 400 os) #[.agg #[.int .u8 0, .slice none 0 0, .bool false], .slice none 0 0] 8 rfl (World.shaped_of_RefB (by kernel_rfl) (by kernel_rfl)) (by kernel_rfl) (by kernel_rfl) (by kernel_rfl) (door_met os _)) ?_
  intro W base args ds gs before hval0 hW _ _ hL _
  have hval : ∀ (j : Nat) t v, Tryz.f11.params[j]? = some t → args[j]? = some v → Value.okWide Tryz.prog W .any base t v := hval0
  have hW' := hW
  obtain ⟨p, q, hA0, hV, rfl, hfz, hnd⟩ := hW
  have hA : DataW.TrodAll enc Tryz.prog W 0 (fun _ => true) true Tryz.f11.params.toList args.toList ds p := hA0
  rw [Tryz.params11] at hA hval
  obtain ⟨v0, v1, d0, d1, p0, p1, rfl, rfl, rfl, h0, h1⟩ := trodAll_two hA
  obtain ⟨rfl, rfl⟩ := trodVars_none hV
  obtain ⟨cs0, rfl, hs0⟩ := okWide_struct Tryz.underlying24 (hval 0 24 v0 rfl rfl)
  rw [fr_cP18] at hs0
  obtain ⟨a1, len1, cap1, rfl⟩ := okWide_slice Tryz.underlying30 (hval 1 30 v1 rfl rfl)
  have h0k := h0
  have h1k := h1
  obtain ⟨fuel0, hf0⟩ := h0
  obtain ⟨B0, rv0, vl0, Z0, rfl, hB0, hZ0⟩ := plan18_open hs0 hf0
  obtain ⟨fuel1, hf1⟩ := h1
  obtain ⟨r1, hR1⟩ := introw_open (by simp [Value.cells]) hf1
  clear hA0 hval0 hf0 hf1
  simp only [List.append_nil] at hW'
  have hlt : ∀ z ∈ p0 ++ p1, z.block < W.heap.size := fun z hz => by simpa using hW'.lt z hz
  refine (lge_walk hB0 hZ0 hR1 (laid_of hL)).mono ?_
  rintro e W' ⟨rfl, hE⟩
  have e1 : Rows.generatorErrorsSpec.fn H ([d0, d1] ++ []) = { results := [.lit (.bool true)], args := [d0, d1] } := rfl
  refine ⟨_, rfl, _, _, _, [], p0 ++ p1, [], hW', ?_, ?_, ?_, hE.frame _, fun h => by cases h⟩
  · rw [e1]; exact trodAll_mk1 (shut_bool Tryz.underlying4 true)
  · rw [e1]; exact trodAll_mk2 (Below.trod fr_laidOut (by kernel_rfl) (of_decide_eq_true (by kernel_rfl)) h0k hE fun x hx => hlt x (by simp [hx])) (Below.trod fr_laidOut (by kernel_rfl) (of_decide_eq_true (by kernel_rfl)) h1k hE fun x hx => hlt x (by simp [hx]))
  · rw [e1]; rfl
set_option maxHeartbeats 20000000 in
theorem generatorErrors_holds : Rows.GeneratorErrorsSaid :=
  OpenClaim.holds_of_wide 11 Tryz.f11 rfl rfl rfl rfl rfl rfl rfl ⟨rfl, rfl, rfl, rfl, rfl⟩ rfl rfl rfl rfl rfl (by as_aux_lemma => kernel_rfl) Tryz.func11 (by
      unfold joinedFacts
      simp only [Bool.and_eq_true]
      repeat' apply And.intro
      all_goals (as_aux_lemma => kernel_rfl))
    (of_decide_eq_true (by kernel_rfl)) (by unfold Func.isWrapper; first | (rw [if_pos (by decide +kernel)]; kernel_rfl) | (rw [if_neg (by decide +kernel)]; exact ⟨rfl, rfl⟩))
    (fun os started H enc _ => generatorErrors_lifted os started H enc)
set_option maxHeartbeats 20000000 in
theorem generatorErrors_card : Rows.GeneratorErrorsCardSaid :=
  Claim7.holds_tied_plain_at .later [] [.data, .data, .data, .sentinel, .sentinel] true Rows.generatorErrorsCard.stood.harness true
    generatorErrors_holds (fun _ h => by cases h) (by as_aux_lemma => kernel_rfl) (fun _ h => by cases h) generatorErrors_row_tie rfl ⟨rfl, rfl⟩ (by as_aux_lemma => kernel_rfl) rfl
    (fun f fn hf hfn => by
      obtain rfl : f = 11 := Option.some.inj ((show Tryz.prog.funcNamed "schisma/schismalaw20.GeneratorErrors" = some 11 by as_aux_lemma => kernel_rfl).symm.trans hf) |>.symm
      obtain rfl : fn = Tryz.f11 := (Option.some.inj (Tryz.func11.symm.trans hfn)).symm
      exact ⟨by as_aux_lemma => kernel_rfl, fun j t ht => by
        rw [Tryz.params11] at ht
        have hm : t ∈ [24, 30] := by simpa using Array.mem_of_getElem? ht
        have hall : ([24, 30].all fun u => !Tryz.prog.wantsStandIn u) = true := by as_aux_lemma => kernel_rfl
        exact (show Tryz.prog.wantsStandIn t = false by simpa using List.all_eq_true.1 hall t hm)⟩)
    (by as_aux_lemma => kernel_rfl)
#print axioms generatorErrors_card
end Go.Proofs.YtnlajhjoakijmaaGreatDoor
