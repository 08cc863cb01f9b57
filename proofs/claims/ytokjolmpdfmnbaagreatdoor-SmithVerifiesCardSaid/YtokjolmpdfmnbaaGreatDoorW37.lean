/- Part 37 of the proof of the claim: contracts of the functions that it reaches, and plain laws; no condition. -/
import Derived.Test.YtokjolmpdfmnbaaGreatDoorW05
import Derived.Test.YtokjolmpdfmnbaaGreatDoorW11
import Derived.Test.YtokjolmpdfmnbaaGreatDoorRows
import Derived.ProofKit
import Derived.LaidMore
import Derived.OpenShut
import Derived.Stop.Joined
import Derived.Stop.LaidErr
import Derived.Lib.LaidTab
import Derived.Deep.Matrix
import Derived.Test.YtokjolmpdfmnbaaGreatDoorW19
import Derived.Test.YtokjolmpdfmnbaaGreatDoorW36
import Derived.Test.YtokjolmpdfmnbaaGreatDoorCards
import Derived.Test.YtokjolmpdfmnbaaGreatDoorTie
import Derived.SevenTiedAt
namespace Go.Proofs.YtokjolmpdfmnbaaGreatDoor
open Go.ChangeShapes Go.WideShapes Go.ChangeAt Go.WideMaps Go.WideElems Go.RowKit Go.Deep
theorem fr_own : ownKnob Tryz.prog.godebug = none := by kernel_rfl
theorem fr_laidOut : laidOutB Tryz.prog = true := by kernel_rfl
theorem fr_pow : Tryz.prog.globalNamed "internal/strconv.uint64pow10" = some 3 := by kernel_rfl
theorem fr_powT : (Tryz.prog.globals[3]?).map (·.type) = some 265 := by kernel_rfl
theorem fr_rng : Tryz.prog.globalNamed "strconv.ErrRange" = some 2 := by kernel_rfl
theorem fr_rngT : (Tryz.prog.globals[2]?).map (·.type) = some 183 := by kernel_rfl
theorem fr_c20 : Tryz.prog.cellsOf 265 = 20 := by kernel_rfl
theorem fr_cu : Tryz.prog.cellsOf 214 = 1 := by kernel_rfl
theorem fr_cE : Tryz.prog.cellsOf 270 = 1 := by kernel_rfl
theorem fr_cS : Tryz.prog.cellsOf 9 = 1 := by kernel_rfl
theorem fr_star : "*" ++ "errors.errorString" = "*errors.errorString" := by decide
theorem fr_ptr (u : TypeId) (h : Tryz.prog.typeName? 3 u = some "*errors.errorString") : u = 268 :=
  typeName_ptr_named (nm := "errors.errorString") (by rw [fr_star]; kernel_rfl) (by kernel_rfl) (by decide) u (by rw [fr_star]; exact h)
abbrev fr_list : List (String × DataW Unit) := [("math/bits.deBruijn32tab", Rows.laid_math_bits_deBruijn32tab), ("math/bits.deBruijn64tab", Rows.laid_math_bits_deBruijn64tab), ("internal/strconv.uint64pow10", Rows.laid_internal_strconv_uint64pow10), ("strconv.ErrRange", Rows.laid_strconv_ErrRange), ("strconv.ErrSyntax", Rows.laid_strconv_ErrSyntax)]
theorem fr_tab : (Rows.laid_internal_strconv_uint64pow10 : DataW Unit) = Lib.tabData .u64 Lib.pow10Tab := by kernel_rfl
theorem laid_of {W : World} (h : laidMetH Tryz.prog fr_list W) : Laid W := by
  rw [MakeChecks.laidMetH_plain _ _ _ (by kernel_rfl)] at h
  have h3 := h.tail.tail
  rw [fr_tab] at h3
  refine ⟨Lib.tabIs_of_head fr_pow fr_powT Tryz.underlying265 Tryz.underlying214 fr_cu fr_c20 h3, ?_⟩
  obtain ⟨a, s, hv, _⟩ := laid_sentinel h3.tail fr_rng fr_rngT Tryz.underlying183 fr_ptr Tryz.underlying268 Tryz.underlying270 rfl rfl Tryz.underlying9 fr_cE fr_cS
  exact ⟨_, _, hv⟩
theorem door_met (os : Os) (args : Array Value) : laidMetH Tryz.prog fr_list ((World.doorLaid Tryz.prog 400 os).forCall (fun _ _ => 0) ⟨#[], args, []⟩).memory :=
  laidMetH_of_parts3 (fuel := 8) (laidMet_of_run' 8 (by kernel_rfl) (by kernel_rfl)) (by kernel_rfl) (by kernel_rfl)
end Go.Proofs.YtokjolmpdfmnbaaGreatDoor
namespace Go.Proofs.YtokjolmpdfmnbaaGreatDoor
open Go.ChangeShapes Go.WideShapes Go.ChangeAt Go.WideMaps Go.WideElems Go.RowKit Go.Deep
theorem fr_c8 : Tryz.prog.cellsOf 22 = 1 := by kernel_rfl
theorem take_one {l : List Value} {k : Nat} {x : Value} (h : (l.drop k).take 1 = [x]) : l[k]? = some x := by
  have := congrArg (·[0]?) h
  simpa [List.getElem?_take] using this
theorem i8_bounds {n : Int} (h : (Lit.int .i8 n).wf = true) : -128 ≤ n ∧ n ≤ 127 := by
  simp only [Lit.wf, Bool.and_eq_true, decide_eq_true_eq] at h
  have e1 : IntKind.i8.min = -128 := by rfl
  have e2 : IntKind.i8.max = 127 := by rfl
  omega
theorem u8_bounds {n : Int} (h : (Lit.int .u8 n).wf = true) : 0 ≤ n ∧ n ≤ 255 := by
  simp only [Lit.wf, Bool.and_eq_true, decide_eq_true_eq] at h
  have e1 : IntKind.u8.min = 0 := by rfl
  have e2 : IntKind.u8.max = 255 := by rfl
  omega
theorem i8_cells {H : Type} {enc : TypeId × Value → H} {W : World} {base : Nat} {sp : Nat → Bool} {held : Bool} {fuel n : Nat} {t : TypeId} {l : List Value} {x : DataW H × List MemPlace} (ht : Tryz.prog.underlying t = some (.array n 22))
    (h : DataW.trod enc Tryz.prog W base sp held fuel t l = some x) : ∀ j, j < n → ∃ z : Int, l[j]? = some (.int .i8 z) ∧ -128 ≤ z ∧ z ≤ 127 := by
  obtain ⟨xs, m, _, _, _, hxl, hx⟩ := DataW.trod_array ht h
  intro j hj
  have h1 := hx j hj
  rw [fr_c8, Nat.mul_one, List.getElem?_eq_getElem (by omega)] at h1
  obtain ⟨z, hz, _, hw⟩ := DataW.trod_int Tryz.underlying22 h1
  exact ⟨z, take_one hz, i8_bounds hw⟩
end Go.Proofs.YtokjolmpdfmnbaaGreatDoor
namespace Go.Proofs.YtokjolmpdfmnbaaGreatDoor
open Go.ChangeShapes Go.WideShapes Go.ChangeAt Go.WideMaps Go.WideElems Go.RowKit Go.Deep
theorem fr_cSh : Tryz.prog.cellsOf 25 = 11 := by kernel_rfl
theorem list11s {l : List Value} {a b c d e f g h i j k : Value} (hl : l.length = 11) (h0 : l[0]? = some a) (h1 : l[1]? = some b) (h2 : l[2]? = some c) (h3 : l[3]? = some d) (h4 : l[4]? = some e) (h5 : l[5]? = some f) (h6 : l[6]? = some g) (h7 : l[7]? = some h) (h8 : l[8]? = some i) (h9 : l[9]? = some j) (h10 : l[10]? = some k) : l = [a, b, c, d, e, f, g, h, i, j, k] := by
  refine List.ext_getElem? fun n => ?_
  match n with
  | 0 => exact h0
  | 1 => exact h1
  | 2 => exact h2
  | 3 => exact h3
  | 4 => exact h4
  | 5 => exact h5
  | 6 => exact h6
  | 7 => exact h7
  | 8 => exact h8
  | 9 => exact h9
  | 10 => exact h10
  | n + 11 => rw [List.getElem?_eq_none (by omega), List.getElem?_eq_none (by simp)]
set_option maxRecDepth 100000 in
theorem shape_open {H : Type} {enc : TypeId × Value → H} {W : World} {base : Nat} {sp : Nat → Bool} {held : Bool} {fuel : Nat} {cs : Array Value} {x : DataW H × List MemPlace} (hs : cs.size = 11)
    (h : DataW.trod enc Tryz.prog W base sp held fuel 25 cs.toList = some x) : ∃ (R C : Nat) (e0 e1 e2 e3 e4 e5 e6 e7 e8 : Int), cs = #[.int .u8 R, .int .u8 C, .int .i8 e0, .int .i8 e1, .int .i8 e2, .int .i8 e3, .int .i8 e4, .int .i8 e5, .int .i8 e6, .int .i8 e7, .int .i8 e8] ∧
      ShapeV #[.int .u8 R, .int .u8 C, .int .i8 e0, .int .i8 e1, .int .i8 e2, .int .i8 e3, .int .i8 e4, .int .i8 e5, .int .i8 e6, .int .i8 e7, .int .i8 e8] R C [e0, e1, e2, e3, e4, e5, e6, e7, e8] := by
  obtain ⟨xs, n, _, _, _, hxl, hx⟩ := DataW.trod_struct Tryz.underlying25 h
  have hx3 : xs.length = 3 := hxl
  have h0 := hx 0 _ rfl
  have h1 := hx 1 _ rfl
  have h2 := hx 2 _ rfl
  rw [List.getElem?_eq_getElem (by omega)] at h0 h1 h2
  have h0' : DataW.trod enc Tryz.prog W base sp held n 5 ((cs.toList.drop 0).take 1) = some xs[0] := h0
  have h1' : DataW.trod enc Tryz.prog W base sp held n 5 ((cs.toList.drop 1).take 1) = some xs[1] := h1
  have h2' : DataW.trod enc Tryz.prog W base sp held n 23 ((cs.toList.drop 2).take 9) = some xs[2] := h2
  obtain ⟨a, ha, _, wa⟩ := DataW.trod_int Tryz.underlying5 h0'
  obtain ⟨b, hb, _, wb⟩ := DataW.trod_int Tryz.underlying5 h1'
  have e2 := i8_cells Tryz.underlying23 h2'
  have ba := u8_bounds wa
  have bb := u8_bounds wb
  obtain ⟨z0, k0, b0⟩ := e2 0 (by omega)
  obtain ⟨z1, k1, b1⟩ := e2 1 (by omega)
  obtain ⟨z2, k2, b2⟩ := e2 2 (by omega)
  obtain ⟨z3, k3, b3⟩ := e2 3 (by omega)
  obtain ⟨z4, k4, b4⟩ := e2 4 (by omega)
  obtain ⟨z5, k5, b5⟩ := e2 5 (by omega)
  obtain ⟨z6, k6, b6⟩ := e2 6 (by omega)
  obtain ⟨z7, k7, b7⟩ := e2 7 (by omega)
  obtain ⟨z8, k8, b8⟩ := e2 8 (by omega)
  obtain ⟨R, rfl⟩ : ∃ R : Nat, a = (R : Int) := ⟨a.toNat, by omega⟩
  obtain ⟨C, rfl⟩ : ∃ C : Nat, b = (C : Int) := ⟨b.toNat, by omega⟩
  have hl : cs.toList.length = 11 := by simpa using hs
  have g0 : cs.toList[0]? = some (.int .u8 R) := by
    have := congrArg (fun l : List Value => l[0]?) ha; simpa using this
  have g1 : cs.toList[1]? = some (.int .u8 C) := by
    have := congrArg (fun l : List Value => l[0]?) hb; simpa using this
  have hcs : cs.toList = [.int .u8 R, .int .u8 C, .int .i8 z0, .int .i8 z1, .int .i8 z2, .int .i8 z3, .int .i8 z4, .int .i8 z5, .int .i8 z6, .int .i8 z7, .int .i8 z8] :=
    list11s hl g0 g1 (by simpa using k0) (by simpa using k1) (by simpa using k2) (by simpa using k3) (by simpa using k4) (by simpa using k5) (by simpa using k6) (by simpa using k7) (by simpa using k8)
  refine ⟨R, C, z0, z1, z2, z3, z4, z5, z6, z7, z8, by rw [← Array.toArray_toList (xs := cs), hcs], ⟨rfl, rfl, rfl, rfl, fun j hj => ?_, fun j hj => ?_, by omega, by omega⟩⟩
  · rcases (show j = 0 ∨ j = 1 ∨ j = 2 ∨ j = 3 ∨ j = 4 ∨ j = 5 ∨ j = 6 ∨ j = 7 ∨ j = 8 by omega) with rfl | rfl | rfl | rfl | rfl | rfl | rfl | rfl | rfl <;> rfl
  · rcases (show j = 0 ∨ j = 1 ∨ j = 2 ∨ j = 3 ∨ j = 4 ∨ j = 5 ∨ j = 6 ∨ j = 7 ∨ j = 8 by omega) with rfl | rfl | rfl | rfl | rfl | rfl | rfl | rfl | rfl <;> assumption
end Go.Proofs.YtokjolmpdfmnbaaGreatDoor
namespace Go.Proofs.YtokjolmpdfmnbaaGreatDoor
open Go.ChangeShapes Go.WideShapes Go.ChangeAt Go.WideMaps Go.WideElems Go.RowKit Go.Deep
set_option maxRecDepth 100000 in
set_option maxHeartbeats 2000000 in
theorem smithVerifies_lifted (os : Os) (started : os.Started) (H : Type) (enc : TypeId × Value → H) :
    ReturnsInHanded {} Tryz.checked os 4 .any (fun w args => (Rows.smithVerifiesSpec.pre enc Tryz.prog Tryz.f4 [] false w args ∧ laidMetH Tryz.prog fr_list w) ∧ sizedMet enc Tryz.prog Tryz.f4 (OpenSpec.ofChange Rows.smithVerifiesSpec) false w args)
      (Rows.smithVerifiesSpec.post enc Tryz.prog Tryz.f4 false true false false) := by
  refine returnsInHanded_of_change_and (C := Tryz.checked) (X := fun w _ => laidMetH Tryz.prog fr_list w) (fun _ _ _ hh h => h.of_heap hh) fr_own started (by kernel_rfl) Tryz.func4
    (ChangeSpec.witness_shaped (enc := enc) (C := Tryz.checked) (os := os) (X := fun w _ => laidMetH Tryz.prog fr_list w) false (World.doorLaid Tryz.prog 400 os) #[.agg #[.int .u8 0, .int .u8 0, .int .i8 0, .int .i8 0, .int .i8 0, .int .i8 0, .int .i8 0, .int .i8 0, .int .i8 0, .int .i8 0, .int .i8 0], .agg #[.int .u8 0, .int .u8 0, .int .i8 0, .int .i8 0, .int .i8 0, .int .i8 0, .int .i8 0, .int .i8 0, .int .i8 0, .int .i8 0, .int .i8 0], .agg #[.int .u8 0, .int .u8 0, .int .i8 0, .int .i8 0, .int .i8 0, .int .i8 0, .int .i8 0, .int .i8 0, .int .i8 0, .int .i8 0, .int .i8 0]] 8 rfl (World.shaped_of_RefB (by kernel_rfl) (by kernel_rfl)) (by kernel_rfl) (by kernel_rfl) (by kernel_rfl) (door_met os _)) ?_
  intro W base args ds gs before hval0 hW _ _ hL _
  have hval : ∀ (j : Nat) t v, Tryz.f4.params[j]? = some t → args[j]? = some v → Value.okWide Tryz.prog W .any base t v := hval0
  have hW' := hW
  obtain ⟨p, q, hA0, hV, rfl, hfz, hnd⟩ := hW
  have hA : DataW.TrodAll enc Tryz.prog W 0 (fun _ => true) true Tryz.f4.params.toList args.toList ds p := hA0
  rw [Tryz.params4] at hA hval
  obtain ⟨v0, v1, v2, d0, d1, d2, p0, p1, p2, rfl, rfl, rfl, h0, h1, h2⟩ := trodAll_three hA
  obtain ⟨rfl, rfl⟩ := trodVars_none hV
  obtain ⟨cs0, rfl, hs0⟩ := okWide_struct Tryz.underlying25 (hval 0 25 v0 rfl rfl)
  rw [fr_cSh] at hs0
  obtain ⟨cs1, rfl, hs1⟩ := okWide_struct Tryz.underlying25 (hval 1 25 v1 rfl rfl)
  rw [fr_cSh] at hs1
  obtain ⟨cs2, rfl, hs2⟩ := okWide_struct Tryz.underlying25 (hval 2 25 v2 rfl rfl)
  rw [fr_cSh] at hs2
  have h0k := h0
  have h1k := h1
  have h2k := h2
  obtain ⟨fuel0, hf0⟩ := h0
  obtain ⟨R0, C0, e0_0, e0_1, e0_2, e0_3, e0_4, e0_5, e0_6, e0_7, e0_8, rfl, hG0⟩ := shape_open hs0 hf0
  obtain ⟨fuel1, hf1⟩ := h1
  obtain ⟨R1, C1, e1_0, e1_1, e1_2, e1_3, e1_4, e1_5, e1_6, e1_7, e1_8, rfl, hG1⟩ := shape_open hs1 hf1
  obtain ⟨fuel2, hf2⟩ := h2
  obtain ⟨R2, C2, e2_0, e2_1, e2_2, e2_3, e2_4, e2_5, e2_6, e2_7, e2_8, rfl, hG2⟩ := shape_open hs2 hf2
  clear hA0 hval0 hf0 hf1 hf2
  simp only [List.append_nil] at hW'
  have hlt : ∀ z ∈ p0 ++ p1 ++ p2, z.block < W.heap.size := fun z hz => by simpa using hW'.lt z hz
  refine (vs_walk hG0 hG1 hG2 (laid_of hL)).mono ?_
  rintro e W' ⟨rfl, hE⟩
  have e1 : Rows.smithVerifiesSpec.fn H ([d0, d1, d2] ++ []) = { results := [.lit (.bool true)], args := [d0, d1, d2] } := rfl
  refine ⟨_, rfl, _, _, _, [], p0 ++ p1 ++ p2, [], hW', ?_, ?_, ?_, hE.frame _, fun h => by cases h⟩
  · rw [e1]; exact trodAll_mk1 (shut_bool Tryz.underlying4 true)
  · rw [e1, List.append_assoc]; exact trodAll_mk3 (Below.trod fr_laidOut (by kernel_rfl) (of_decide_eq_true (by kernel_rfl)) h0k hE fun x hx => hlt x (by simp [hx])) (Below.trod fr_laidOut (by kernel_rfl) (of_decide_eq_true (by kernel_rfl)) h1k hE fun x hx => hlt x (by simp [hx])) (Below.trod fr_laidOut (by kernel_rfl) (of_decide_eq_true (by kernel_rfl)) h2k hE fun x hx => hlt x (by simp [hx]))
  · rw [e1]; rfl
set_option maxHeartbeats 20000000 in
theorem smithVerifies_holds : Rows.SmithVerifiesSaid :=
  OpenClaim.holds_of_wide 4 Tryz.f4 rfl rfl rfl rfl rfl rfl rfl ⟨rfl, rfl, rfl, rfl, rfl⟩ rfl rfl rfl rfl rfl (by as_aux_lemma => kernel_rfl) Tryz.func4 (by
      unfold joinedFacts
      simp only [Bool.and_eq_true]
      repeat' apply And.intro
      all_goals (as_aux_lemma => kernel_rfl))
    (of_decide_eq_true (by kernel_rfl)) (by unfold Func.isWrapper; first | (rw [if_pos (by decide +kernel)]; kernel_rfl) | (rw [if_neg (by decide +kernel)]; exact ⟨rfl, rfl⟩))
    (fun os started H enc _ => smithVerifies_lifted os started H enc)
set_option maxHeartbeats 20000000 in
theorem smithVerifies_card : Rows.SmithVerifiesCardSaid :=
  Claim7.holds_tied_plain_at .later [] [.data, .data, .data, .sentinel, .sentinel] true Rows.smithVerifiesCard.stood.harness true
    smithVerifies_holds (fun _ h => by cases h) (by as_aux_lemma => kernel_rfl) (fun _ h => by cases h) smithVerifies_row_tie rfl ⟨rfl, rfl⟩ (by as_aux_lemma => kernel_rfl) rfl
    (fun f fn hf hfn => by
      obtain rfl : f = 4 := Option.some.inj ((show Tryz.prog.funcNamed "schisma/schismalaw08.SmithVerifies" = some 4 by as_aux_lemma => kernel_rfl).symm.trans hf) |>.symm
      obtain rfl : fn = Tryz.f4 := (Option.some.inj (Tryz.func4.symm.trans hfn)).symm
      exact ⟨by as_aux_lemma => kernel_rfl, fun j t ht => by
        rw [Tryz.params4] at ht
        have hm : t ∈ [25, 25, 25] := by simpa using Array.mem_of_getElem? ht
        have hall : ([25, 25, 25].all fun u => !Tryz.prog.wantsStandIn u) = true := by as_aux_lemma => kernel_rfl
        exact (show Tryz.prog.wantsStandIn t = false by simpa using List.all_eq_true.1 hall t hm)⟩)
    (by as_aux_lemma => kernel_rfl)
#print axioms smithVerifies_card
end Go.Proofs.YtokjolmpdfmnbaaGreatDoor
