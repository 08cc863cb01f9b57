/- Part 6, beside the shared parts, of the proof of the claim: contracts and plain laws; no condition. -/
import Derived.Test.YtedlgnoiojcjaaaGreatDoorV01
import Derived.Test.YtedlgnoiojcjaaaGreatDoorV02
import Derived.Test.YtedlgnoiojcjaaaGreatDoorV03
import Derived.Test.YtedlgnoiojcjaaaGreatDoorV04
import Derived.Test.YtedlgnoiojcjaaaGreatDoorV05
import Derived.Test.YtedlgnoiojcjaaaGreatDoorV06
import Derived.Test.YtedlgnoiojcjaaaGreatDoorV07
import Derived.Test.YtedlgnoiojcjaaaGreatDoorV08
import Derived.Test.YtedlgnoiojcjaaaGreatDoorV09
import Derived.Test.YtedlgnoiojcjaaaGreatDoorV10
import Derived.Test.YtedlgnoiojcjaaaGreatDoorV11
import Derived.Test.YtedlgnoiojcjaaaGreatDoorV12
import Derived.Test.YtedlgnoiojcjaaaGreatDoorV13
import Derived.Test.YtedlgnoiojcjaaaGreatDoorV14
import Derived.Test.YtedlgnoiojcjaaaGreatDoorV15
import Derived.Test.YtedlgnoiojcjaaaGreatDoorV16
import Derived.Test.YtedlgnoiojcjaaaGreatDoorV17
import Derived.Test.YtedlgnoiojcjaaaGreatDoorV18
import Derived.Test.YtedlgnoiojcjaaaGreatDoorV19
import Derived.Test.YtedlgnoiojcjaaaGreatDoorV20
import Derived.Test.YtedlgnoiojcjaaaGreatDoorV21
import Derived.Test.YtedlgnoiojcjaaaGreatDoorV22
import Derived.Test.YtedlgnoiojcjaaaGreatDoorV23
import Derived.Test.YtedlgnoiojcjaaaGreatDoorV24
import Derived.Test.YtedlgnoiojcjaaaGreatDoorV25
import Derived.Test.YtedlgnoiojcjaaaGreatDoorV26
import Derived.Test.YtedlgnoiojcjaaaGreatDoorV27
import Derived.Test.YtedlgnoiojcjaaaGreatDoorV28
import Derived.Test.YtedlgnoiojcjaaaGreatDoorV29
import Derived.Test.YtedlgnoiojcjaaaGreatDoorV30
import Derived.Test.YtedlgnoiojcjaaaGreatDoorV31
import Derived.Test.YtedlgnoiojcjaaaGreatDoorW01
import Derived.Test.YtedlgnoiojcjaaaGreatDoorW02
import Derived.Test.YtedlgnoiojcjaaaGreatDoorW03
import Derived.Test.YtedlgnoiojcjaaaGreatDoorW04
import Derived.Test.YtedlgnoiojcjaaaGreatDoorW05
import Derived.Test.YtedlgnoiojcjaaaGreatDoorCards
import Derived.Test.YtedlgnoiojcjaaaGreatDoorTie
import Derived.SevenTiedAt
set_option maxRecDepth 100000
namespace Go.Proofs.YtedlgnoiojcjaaaGreatDoor
open Go.ChangeShapes Go.WideShapes Go.ChangeAt Go.WideMaps Go.WideElems Go.RowKit Go.Deep
theorem fr_ca4 : Tryz.prog.cellsOf 33 = 4 := by kernel_rfl
theorem arr4_open {H : Type} {enc : TypeId × Value → H} {W : World} {base : Nat} {sp : Nat → Bool} {held : Bool} {fuel : Nat} {cs : Array Value} {x : DataW H × List MemPlace} (hs : cs.size = 4)
  (h : DataW.trod enc Tryz.prog W base sp held fuel 33 cs.toList = some x) : ∃ z0 z1 z2 z3 : Int, cs = #[.int .i8 z0, .int .i8 z1, .int .i8 z2, .int .i8 z3] ∧ (-128 ≤ z0 ∧ z0 ≤ 127) ∧ (-128 ≤ z1 ∧ z1 ≤ 127) ∧ (-128 ≤ z2 ∧ z2 ≤ 127) ∧ (-128 ≤ z3 ∧ z3 ≤ 127) := by
 have hE := i8_cells Tryz.underlying33 h
 obtain ⟨z0, k0, b0⟩ := hE 0 (by omega)
 obtain ⟨z1, k1, b1⟩ := hE 1 (by omega)
 obtain ⟨z2, k2, b2⟩ := hE 2 (by omega)
 obtain ⟨z3, k3, b3⟩ := hE 3 (by omega)
 refine ⟨z0, z1, z2, z3, ?_, b0, b1, b2, b3⟩
 obtain ⟨l⟩ := cs
 match l, hs with
 | [c0, c1, c2, c3], _ =>
  simp at k0 k1 k2 k3
  subst k0 k1 k2 k3
  rfl
set_option maxHeartbeats 2000000 in
theorem tuningLaws_lifted (os : Os) (started : os.Started) (H : Type) (enc : TypeId × Value → H) :
  ReturnsInHanded {} Tryz.checked os 3 .any (fun w args => (Rows.tuningLawsSpec.pre enc Tryz.prog Tryz.f3 [] false w args ∧ laidMetH Tryz.prog fr_list w) ∧ sizedMet enc Tryz.prog Tryz.f3 (OpenSpec.ofChange Rows.tuningLawsSpec) false w args)
   (Rows.tuningLawsSpec.post enc Tryz.prog Tryz.f3 false true false false) := by
 refine returnsInHanded_of_change_and (C := Tryz.checked) (X := fun w _ => laidMetH Tryz.prog fr_list w) (fun _ _ _ hh h => h.of_heap hh) fr_own started (by kernel_rfl) Tryz.func3
  (ChangeSpec.witness_shaped (enc := enc) (C := Tryz.checked) (os := os) (X := fun w _ => laidMetH Tryz.prog fr_list w) false (World.doorLaid Tryz.prog 400 os) #[.agg #[.int .u8 0, .slice none 0 0, .bool false, .int .i8 0, .int .u8 0, .int .i8 0, .int .u8 0, .int .i8 0, .int .u8 0, .int .i8 0, .int .u8 0, .int .i8 0, .int .u8 0, .int .i8 0, .int .u8 0, .int .i8 0, .int .u8 0, .int .i8 0, .int .u8 0, .int .i8 0, .int .u8 0, .int .i8 0, .int .u8 0, .int .i8 0, .int .u8 0, .int .i8 0, .int .u8 0, .int .i8 0, .int .u8 0, .int .i8 0, .int .u8 0, .int .i8 0, .int .u8 0, .int .i8 0, .int .u8 0], .agg #[.int .i8 0, .int .i8 0, .int .i8 0, .int .i8 0], .agg #[.int .i8 0, .int .i8 0, .int .i8 0, .int .i8 0]] 8 rfl (World.shaped_of_RefB (by kernel_rfl) (by kernel_rfl)) (by kernel_rfl) (by kernel_rfl) (by kernel_rfl) (door_met os _)) ?_
 intro W base args ds gs before hval0 hW _ _ hL _
 have hval : ∀ (j : Nat) t v, Tryz.f3.params[j]? = some t → args[j]? = some v → Value.okWide Tryz.prog W .any base t v := hval0
 have hW' := hW
 obtain ⟨p, q, hA0, hV, rfl, hfz, hnd⟩ := hW
 have hA : DataW.TrodAll enc Tryz.prog W 0 (fun _ => true) true Tryz.f3.params.toList args.toList ds p := hA0
 rw [Tryz.params3] at hA hval
 obtain ⟨v0, v1, v2, d0, d1, d2, p0, p1, p2, rfl, rfl, rfl, h0, h1, h2⟩ := trodAll_three hA
 obtain ⟨rfl, rfl⟩ := trodVars_none hV
 obtain ⟨cs0, rfl, hs0⟩ := okWide_struct Tryz.underlying32 (hval 0 32 v0 rfl rfl)
 rw [fr_cP24] at hs0
 obtain ⟨cs1, rfl, hs1⟩ := okWide_arr Tryz.underlying33 (hval 1 33 v1 rfl rfl)
 rw [fr_ca4] at hs1
 obtain ⟨cs2, rfl, hs2⟩ := okWide_arr Tryz.underlying33 (hval 2 33 v2 rfl rfl)
 rw [fr_ca4] at hs2
 have h0k := h0
 have h1k := h1
 have h2k := h2
 obtain ⟨fuel0, hf0⟩ := h0
 obtain ⟨B0, rv0, vl0, pA0, pB0, Z0, hPv0, hB0, hZ0, hq0⟩ := plan24_open hs0 hf0
 rw [hPv0] at h0k hW' ⊢
 obtain ⟨fuel1, hf1⟩ := h1
 obtain ⟨z1_0, z1_1, z1_2, z1_3, rfl, b1_0, b1_1, b1_2, b1_3⟩ := arr4_open hs1 hf1
 obtain ⟨fuel2, hf2⟩ := h2
 obtain ⟨z2_0, z2_1, z2_2, z2_3, rfl, b2_0, b2_1, b2_2, b2_3⟩ := arr4_open hs2 hf2
 clear hA0 hval0 hf0 hf1 hf2
 simp only [List.append_nil] at hW'
 have hlt : ∀ z ∈ p0 ++ p1 ++ p2, z.block < W.heap.size := fun z hz => by simpa using hW'.lt z hz
 refine (tlw_walk hB0 hZ0 hq0 ⟨b1_0, b1_1, b1_2, b1_3⟩ ⟨b2_0, b2_1, b2_2, b2_3⟩ (laid_of hL)).mono ?_
 rintro e W' ⟨rfl, hE⟩
 have e1 : Rows.tuningLawsSpec.fn H ([d0, d1, d2] ++ []) = { results := [.lit (.bool true)], args := [d0, d1, d2] } := rfl
 refine ⟨_, rfl, _, _, _, [], p0 ++ p1 ++ p2, [], hW', ?_, ?_, ?_, hE.frame _, fun h => by cases h⟩
 ·rw [e1]; exact trodAll_mk1 (shut_bool Tryz.underlying4 true)
 ·rw [e1, List.append_assoc]; exact trodAll_mk3 (Below.trod fr_laidOut (by kernel_rfl) (of_decide_eq_true (by kernel_rfl)) h0k hE fun x hx => hlt x (by simp [hx])) (Below.trod fr_laidOut (by kernel_rfl) (of_decide_eq_true (by kernel_rfl)) h1k hE fun x hx => hlt x (by simp [hx])) (Below.trod fr_laidOut (by kernel_rfl) (of_decide_eq_true (by kernel_rfl)) h2k hE fun x hx => hlt x (by simp [hx]))
 ·rw [e1]; rfl
set_option maxHeartbeats 20000000 in
theorem tuningLaws_holds : Rows.TuningLawsSaid :=
 OpenClaim.holds_of_wide 3 Tryz.f3 rfl rfl rfl rfl rfl rfl rfl ⟨rfl, rfl, rfl, rfl, rfl⟩ rfl rfl rfl rfl rfl (by as_aux_lemma => kernel_rfl) Tryz.func3 (by
   unfold joinedFacts
   simp only [Bool.and_eq_true]
   repeat' apply And.intro
   all_goals (as_aux_lemma => kernel_rfl))
  (of_decide_eq_true (by kernel_rfl)) (by unfold Func.isWrapper; first | (rw [if_pos (by decide +kernel)]; kernel_rfl) | (rw [if_neg (by decide +kernel)]; exact ⟨rfl, rfl⟩))
  (fun os started H enc _ => tuningLaws_lifted os started H enc)
set_option maxHeartbeats 20000000 in
theorem tuningLaws_card : Rows.TuningLawsCardSaid :=
 Claim7.holds_tied_plain_at .later [] [.data, .data, .data, .sentinel, .sentinel] true Rows.tuningLawsCard.stood.harness true
  tuningLaws_holds (fun _ h => by cases h) (by as_aux_lemma => kernel_rfl) (fun _ h => by cases h) tuningLaws_row_tie rfl ⟨rfl, rfl⟩ (by as_aux_lemma => kernel_rfl) rfl
  (fun f fn hf hfn => by
   obtain rfl : f = 3 := Option.some.inj ((show Tryz.prog.funcNamed "schisma/schismalaw24.TuningLaws" = some 3 by as_aux_lemma => kernel_rfl).symm.trans hf) |>.symm
   obtain rfl : fn = Tryz.f3 := (Option.some.inj (Tryz.func3.symm.trans hfn)).symm
   exact ⟨by as_aux_lemma => kernel_rfl, fun j t ht => by
    rw [Tryz.params3] at ht
    have hm : t ∈ [32, 33, 33] := by simpa using Array.mem_of_getElem? ht
    have hall : ([32, 33, 33].all fun u => !Tryz.prog.wantsStandIn u) = true := by as_aux_lemma => kernel_rfl
    exact (show Tryz.prog.wantsStandIn t = false by simpa using List.all_eq_true.1 hall t hm)⟩)
  (by as_aux_lemma => kernel_rfl)
#print axioms tuningLaws_card
end Go.Proofs.YtedlgnoiojcjaaaGreatDoor
