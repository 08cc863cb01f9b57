/- Part 3, beside the shared parts, of the proof of the claim: contracts and plain laws; no condition. -/
import Derived.Test.YtnlajhjoakijmaaGreatDoorV01
import Derived.Test.YtnlajhjoakijmaaGreatDoorV02
import Derived.Test.YtnlajhjoakijmaaGreatDoorV03
import Derived.Test.YtnlajhjoakijmaaGreatDoorV04
import Derived.Test.YtnlajhjoakijmaaGreatDoorV05
import Derived.Test.YtnlajhjoakijmaaGreatDoorV06
import Derived.Test.YtnlajhjoakijmaaGreatDoorV07
import Derived.Test.YtnlajhjoakijmaaGreatDoorV08
import Derived.Test.YtnlajhjoakijmaaGreatDoorV09
import Derived.Test.YtnlajhjoakijmaaGreatDoorV10
import Derived.Test.YtnlajhjoakijmaaGreatDoorV11
import Derived.Test.YtnlajhjoakijmaaGreatDoorV12
import Derived.Test.YtnlajhjoakijmaaGreatDoorV13
import Derived.Test.YtnlajhjoakijmaaGreatDoorV14
import Derived.Test.YtnlajhjoakijmaaGreatDoorV15
import Derived.Test.YtnlajhjoakijmaaGreatDoorV16
import Derived.Test.YtnlajhjoakijmaaGreatDoorV17
import Derived.Test.YtnlajhjoakijmaaGreatDoorV18
import Derived.Test.YtnlajhjoakijmaaGreatDoorV19
import Derived.Test.YtnlajhjoakijmaaGreatDoorV20
import Derived.Test.YtnlajhjoakijmaaGreatDoorV21
import Derived.Test.YtnlajhjoakijmaaGreatDoorV22
import Derived.Test.YtnlajhjoakijmaaGreatDoorV23
import Derived.Test.YtnlajhjoakijmaaGreatDoorV24
import Derived.Test.YtnlajhjoakijmaaGreatDoorV25
import Derived.Test.YtnlajhjoakijmaaGreatDoorV26
import Derived.Test.YtnlajhjoakijmaaGreatDoorV27
import Derived.Test.YtnlajhjoakijmaaGreatDoorV28
import Derived.Test.YtnlajhjoakijmaaGreatDoorV29
import Derived.Test.YtnlajhjoakijmaaGreatDoorV30
import Derived.Test.YtnlajhjoakijmaaGreatDoorV31
import Derived.Test.YtnlajhjoakijmaaGreatDoorV32
import Derived.Test.YtnlajhjoakijmaaGreatDoorX01
import Derived.Test.YtnlajhjoakijmaaGreatDoorX02
import Derived.Test.YtnlajhjoakijmaaGreatDoorRows
import Derived.ProofKit
import Derived.LaidMore
import Derived.OpenShut
import Derived.Stop.Joined
import Derived.Stop.LaidErr
import Derived.Lib.LaidTab
import Derived.Deep.Matrix
import Derived.Test.YtnlajhjoakijmaaGreatDoorCards
import Derived.Test.YtnlajhjoakijmaaGreatDoorTie
import Derived.SevenTiedAt
namespace Go.Proofs.YtnlajhjoakijmaaGreatDoor
open Go.ChangeShapes Go.WideShapes Go.ChangeAt Go.WideMaps Go.WideElems Go.RowKit Go.Deep
theorem fr_cR : Tryz.prog.cellsOf 30 = 1 := by kernel_rfl
theorem fr_cI : Tryz.prog.cellsOf 3 = 1 := by kernel_rfl
theorem row_open {W : World} {A : Option Addr} {L C : Nat} {Z : List Int} {base : Nat} (h1 : L ≤ C) (h2 : Z.length = C) (h3 : A = none → C = 0) (h4 : ∀ a', A = some a' → base ≤ a'.block ∧ ∀ c, c < C → W.cell? (a'.add c) = some (.int .i64 (Z.getD c 0))) : RowR W (.slice A L C) (Z.take L) := by
  have hl : (Z.take L).length = L := by rw [List.length_take]; omega
  cases A with
  | none =>
    have hC := h3 rfl
    refine ⟨none, 0, 0, C, by rw [hl], by rw [hl]; exact h1, fun h => ?_, fun i x hx => ?_⟩
    · rw [is_length, hl] at h; omega
    · have := (List.getElem?_eq_some_iff.1 hx).1
      rw [is_length, hl] at this; omega
  | some a =>
    obtain ⟨_, hc⟩ := h4 a rfl
    have hsp : 0 < L → a.spot = none := fun h => by simpa [Addr.add] using World.cell?_spot (hc 0 (by omega))
    obtain ⟨b, o, sp⟩ := a
    refine ⟨some ⟨b, o, sp⟩, b, o, C, by rw [hl], by rw [hl]; exact h1, fun h => ?_, fun i x hx => ?_⟩
    · rw [is_length, hl] at h
      have := hsp h
      simp at this
      rw [this]
    · have hi := (List.getElem?_eq_some_iff.1 hx).1
      rw [is_length, hl] at hi
      have := hsp (by omega)
      simp at this
      subst this
      rw [is_get (by rw [hl]; exact hi)] at hx
      have e := Option.some.inj hx
      rw [← e, ← add_plain, hc i (by omega), List.getElem_take, getD_get (by omega)]
end Go.Proofs.YtnlajhjoakijmaaGreatDoor
namespace Go.Proofs.YtnlajhjoakijmaaGreatDoor
open Go.ChangeShapes Go.WideShapes Go.ChangeAt Go.WideMaps Go.WideElems Go.RowKit Go.Deep
theorem lrows_open {H : Type} {enc : TypeId × Value → H} {W : World} {base : Nat} {held : Bool} {fuel : Nat} {a0 : Option Addr} {len0 cap0 : Nat} {x : DataW H × List MemPlace}
    (h : DataW.trod enc Tryz.prog W base (fun _ => true) held fuel 25 (Value.slice a0 len0 cap0).cells.toList = some x) : ∃ M, MatR W (.slice a0 len0 cap0) M ∧ ∀ r ∈ M, r.length ≤ 9223372036854775807 := by
  rw [show (Value.slice a0 len0 cap0).cells.toList = [.slice a0 len0 cap0] by simp [Value.cells]] at h
  rcases open_int_rows Tryz.underlying25 Tryz.underlying30 Tryz.underlying3 fr_cR fr_cI h with ⟨hcs, _⟩ | ⟨a, len, cap, A, L, C, Z, hcs, _, hl, _, _, hrows⟩
  · injection hcs with h1 _
    injection h1 with e1 e2 e3
    subst e1 e2 e3
    exact ⟨[], ⟨none, 0, 0, 0, [], rfl, Nat.le_refl _, rfl, Sl.nil _ _ _ _, fun i h => by simp at h⟩, fun r h => by simp at h⟩
  · injection hcs with h1 _
    injection h1 with e1 e2 e3
    subst e1 e2 e3
    have hsp : 0 < len0 → a.spot = none := fun h => by simpa [Addr.add] using World.cell?_spot (hrows 0 (by omega)).1
    obtain ⟨b, o, sp⟩ := a
    refine ⟨(List.range len0).map fun r => (Z r).take (L r), ⟨some ⟨b, o, sp⟩, b, o, cap0, (List.range len0).map fun r => .slice (A r) (L r) (C r), by simp, by simpa using hl, by simp, ⟨fun h => ?_, fun i y hy => ?_⟩, fun i hi hi' => ?_⟩, fun r hr => ?_⟩
    · have := hsp (by simpa using h)
      simp at this
      rw [this]
    · have hi := (List.getElem?_eq_some_iff.1 hy).1
      have hil : i < len0 := by simpa using hi
      have := hsp (by omega)
      simp at this
      subst this
      have e : y = .slice (A i) (L i) (C i) := by
        rw [List.getElem?_eq_getElem hi] at hy
        have := Option.some.inj hy
        rw [← this]; simp
      rw [e, ← add_plain]
      exact (hrows i (by omega)).1
    · have hil : i < len0 := by simpa using hi
      obtain ⟨_, r1, _, r3, _, r5, r6⟩ := hrows i (by omega)
      have := row_open r1 r3 r5 r6
      simpa using this
    · obtain ⟨i, hi, rfl⟩ := List.mem_map.1 hr
      have hil : i < len0 := by simpa using hi
      obtain ⟨_, r1, r2, r3, _, _, _⟩ := hrows i (by omega)
      unfold maxLen at r2
      rw [List.length_take]
      omega
end Go.Proofs.YtnlajhjoakijmaaGreatDoor
namespace Go.Proofs.YtnlajhjoakijmaaGreatDoor
open Go.ChangeShapes Go.WideShapes Go.ChangeAt Go.WideMaps Go.WideElems Go.RowKit Go.Deep
set_option maxRecDepth 100000 in
set_option maxHeartbeats 2000000 in
theorem generatorForms_lifted (os : Os) (started : os.Started) (H : Type) (enc : TypeId × Value → H) :
    ReturnsInHanded {} Tryz.checked os 3 .any (fun w args => (Rows.generatorFormsSpec.pre enc Tryz.prog Tryz.f3 [] false w args ∧ laidMetH Tryz.prog fr_list w) ∧ sizedMet enc Tryz.prog Tryz.f3 (OpenSpec.ofChange Rows.generatorFormsSpec) false w args)
      (Rows.generatorFormsSpec.post enc Tryz.prog Tryz.f3 false true false false) := by
  refine returnsInHanded_of_change_and (C := Tryz.checked) (X := fun w _ => laidMetH Tryz.prog fr_list w) (fun _ _ _ hh h => h.of_heap hh) fr_own started (by kernel_rfl) Tryz.func3
    (ChangeSpec.witness_shaped (enc := enc) (C := Tryz.checked) (os := os) (X := fun w _ => laidMetH Tryz.prog fr_list w) false (World.doorLaid Tryz.prog 400 os) #[.agg #[.int .u8 0, .slice none 0 0, .bool false], .slice none 0 0] 8 rfl (World.shaped_of_RefB (by kernel_rfl) (by kernel_rfl)) (by kernel_rfl) (by kernel_rfl) (by kernel_rfl) (door_met os _)) ?_
  intro W base args ds gs before hval0 hW _ _ hL _
  have hval : ∀ (j : Nat) t v, Tryz.f3.params[j]? = some t → args[j]? = some v → Value.okWide Tryz.prog W .any base t v := hval0
  have hW' := hW
  obtain ⟨p, q, hA0, hV, rfl, hfz, hnd⟩ := hW
  have hA : DataW.TrodAll enc Tryz.prog W 0 (fun _ => true) true Tryz.f3.params.toList args.toList ds p := hA0
  rw [Tryz.params3] at hA hval
  obtain ⟨v0, v1, d0, d1, p0, p1, rfl, rfl, rfl, h0, h1⟩ := trodAll_two hA
  obtain ⟨rfl, rfl⟩ := trodVars_none hV
  obtain ⟨cs0, rfl, hs0⟩ := okWide_struct Tryz.underlying24 (hval 0 24 v0 rfl rfl)
  rw [fr_cP18] at hs0
  obtain ⟨a1, len1, cap1, rfl⟩ := okWide_slice Tryz.underlying25 (hval 1 25 v1 rfl rfl)
  have h0k := h0
  have h1k := h1
  obtain ⟨fuel0, hf0⟩ := h0
  obtain ⟨B0, rv0, vl0, Z0, rfl, hB0, hZ0⟩ := plan18_open hs0 hf0
  obtain ⟨fuel1, hf1⟩ := h1
  obtain ⟨M1, hM1, hm1⟩ := lrows_open hf1
  clear hA0 hval0 hf0 hf1
  simp only [List.append_nil] at hW'
  have hlt : ∀ z ∈ p0 ++ p1, z.block < W.heap.size := fun z hz => by simpa using hW'.lt z hz
  refine (frm_walk hB0 hZ0 hM1 hm1 (laid_of hL)).mono ?_
  rintro e W' ⟨rfl, hE⟩
  have e1 : Rows.generatorFormsSpec.fn H ([d0, d1] ++ []) = { results := [.lit (.bool true)], args := [d0, d1] } := rfl
  refine ⟨_, rfl, _, _, _, [], p0 ++ p1, [], hW', ?_, ?_, ?_, hE.frame _, fun h => by cases h⟩
  · rw [e1]; exact trodAll_mk1 (shut_bool Tryz.underlying4 true)
  · rw [e1]; exact trodAll_mk2 (Below.trod fr_laidOut (by kernel_rfl) (of_decide_eq_true (by kernel_rfl)) h0k hE fun x hx => hlt x (by simp [hx])) (Below.trod fr_laidOut (by kernel_rfl) (of_decide_eq_true (by kernel_rfl)) h1k hE fun x hx => hlt x (by simp [hx]))
  · rw [e1]; rfl
set_option maxHeartbeats 20000000 in
theorem generatorForms_holds : Rows.GeneratorFormsSaid :=
  OpenClaim.holds_of_wide 3 Tryz.f3 rfl rfl rfl rfl rfl rfl rfl ⟨rfl, rfl, rfl, rfl, rfl⟩ rfl rfl rfl rfl rfl (by as_aux_lemma => kernel_rfl) Tryz.func3 (by
      unfold joinedFacts
      simp only [Bool.and_eq_true]
      repeat' apply And.intro
      all_goals (as_aux_lemma => kernel_rfl))
    (of_decide_eq_true (by kernel_rfl)) (by unfold Func.isWrapper; first | (rw [if_pos (by decide +kernel)]; kernel_rfl) | (rw [if_neg (by decide +kernel)]; exact ⟨rfl, rfl⟩))
    (fun os started H enc _ => generatorForms_lifted os started H enc)
set_option maxHeartbeats 20000000 in
theorem generatorForms_card : Rows.GeneratorFormsCardSaid :=
  Claim7.holds_tied_plain_at .later [] [.data, .data, .data, .sentinel, .sentinel] true Rows.generatorFormsCard.stood.harness true
    generatorForms_holds (fun _ h => by cases h) (by as_aux_lemma => kernel_rfl) (fun _ h => by cases h) generatorForms_row_tie rfl ⟨rfl, rfl⟩ (by as_aux_lemma => kernel_rfl) rfl
    (fun f fn hf hfn => by
      obtain rfl : f = 3 := Option.some.inj ((show Tryz.prog.funcNamed "schisma/schismalaw20.GeneratorForms" = some 3 by as_aux_lemma => kernel_rfl).symm.trans hf) |>.symm
      obtain rfl : fn = Tryz.f3 := (Option.some.inj (Tryz.func3.symm.trans hfn)).symm
      exact ⟨by as_aux_lemma => kernel_rfl, fun j t ht => by
        rw [Tryz.params3] at ht
        have hm : t ∈ [24, 25] := by simpa using Array.mem_of_getElem? ht
        have hall : ([24, 25].all fun u => !Tryz.prog.wantsStandIn u) = true := by as_aux_lemma => kernel_rfl
        exact (show Tryz.prog.wantsStandIn t = false by simpa using List.all_eq_true.1 hall t hm)⟩)
    (by as_aux_lemma => kernel_rfl)
#print axioms generatorForms_card
end Go.Proofs.YtnlajhjoakijmaaGreatDoor
