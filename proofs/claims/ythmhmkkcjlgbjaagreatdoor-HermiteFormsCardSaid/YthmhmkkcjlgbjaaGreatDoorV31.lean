/- Part 31 of the proof of the claim: contracts of the functions that it reaches, and plain laws; no condition. -/
import Derived.Test.YthmhmkkcjlgbjaaGreatDoorV29
import Derived.Test.YthmhmkkcjlgbjaaGreatDoorV30
import Derived.Test.YthmhmkkcjlgbjaaGreatDoorV03
import Derived.Test.YthmhmkkcjlgbjaaGreatDoorV13
import Derived.Test.YthmhmkkcjlgbjaaGreatDoorRows
import Derived.ProofKit
import Derived.LaidMore
import Derived.OpenShut
import Derived.Stop.Joined
import Derived.Stop.LaidErr
import Derived.Lib.LaidTab
import Derived.Deep.Matrix
import Derived.Test.YthmhmkkcjlgbjaaGreatDoorCards
import Derived.Test.YthmhmkkcjlgbjaaGreatDoorTie
import Derived.SevenTiedAt
/- schismalaw07: HermiteForms, the walk -/
namespace Go.Proofs.YthmhmkkcjlgbjaaGreatDoor
open Go.RowKit Go.Sort
theorem rkB_mono2 {m m' k : Nat} (h : m ≤ m') : ∀ c, rkB m k c ≤ rkB m' k c
  | 0 => Nat.le_refl _
  | c + 1 => by rw [rkB, rkB]; exact Nat.mul_le_mul (by have := rkB_mono2 h c (k := k); omega) (by omega)
theorem rkB_5 : rkB 5 30 5 = 242610 := by decide
theorem rkB_lim {m c : Nat} (hm : m ≤ 5) (hc : c ≤ 5) : rkB m 30 c ≤ 242610 := by
  have h1 := rkB_mono2 (k := 30) hm c
  have h2 := rkB_mono 5 30 c (5 - c)
  rw [show c + (5 - c) = 5 by omega, rkB_5] at h2
  omega
set_option maxRecDepth 100000 in
set_option maxHeartbeats 4000000 in
theorem forms_walk {w : World} {v : Value} {M : Mx} (hM : MatR w v M) (hL : Laid w) :
    Calls Tryz.prog 7 #[v] w fun e w' => e = .returned (.bool true) ∧ Ext w w' := by
  have HM := Lib.hid hM
  have HL := Lib.hid hL
  have hkn := Lib.hid (fun W (hW : Ext w W) => known_any (hL.ext hW))
  have hck := Lib.hid (fun W (hW : Ext w W) => Check07_any (hM.ext hW))
  obtain ⟨sa, gb, go, cap, vs, rfl, hcap, hvl, hSl, hr⟩ := hM
  have HSl := Lib.hid hSl
  have Hvl := Lib.hid hvl
  have Hr := Lib.hid hr
  obtain ⟨m, hm⟩ : ∃ m, m = M.length := ⟨_, rfl⟩
  have Hm := Lib.hid hm
  obtain ⟨c, hc⟩ : ∃ c, c = checkM M := ⟨_, rfl⟩
  have Hc := Lib.hid hc
  rw [← hc, ← hm] at hck
  rw [← hm] at hcap ⊢
  clear hL hSl hvl hr hm hc
  by_cases h5 : 5 < m
  · have h5i : (5 : Int) < (m : Int) := by omega
    clear hck
    go_enter Tryz.func7, Tryz.ntmps7
    go_wp2_with fail
    refine (hkn.out _ (Ext.refl _)).mono ?_
    rintro e w1 ⟨rfl, hE1⟩
    go_wp2_with fail
    refine (hkn.out _ hE1).mono ?_
    rintro e w3 ⟨rfl, hE3⟩
    go_wp2_with fail
    go_ret
    exact ⟨rfl, hE1.trans hE3⟩
  have h5i : ¬ (5 : Int) < (m : Int) := by omega
  by_cases hbig : ∃ h : 0 < M.length, 5 < M[0].length
  · obtain ⟨hM0, hb⟩ := hbig
    have hm0 : (0 : Int) < (m : Int) := by have := Hm.out; omega
    obtain rfl := HSl.out.addr (by rw [Hvl.out]; omega)
    obtain ⟨sr, br, or, cr, hrow, hrc, hSr⟩ := MatR.row HSl.out Hvl.out Hr.out hM0
    obtain ⟨l0, hl0⟩ : ∃ l0, l0 = M[0].length := ⟨_, rfl⟩
    rw [← hl0] at hb
    rw [← hl0, Nat.add_zero] at hrow
    have hbi : (5 : Int) < (l0 : Int) := by omega
    clear hrc hSr hl0 hck
    go_enter Tryz.func7, Tryz.ntmps7
    go_wp2_with fail
    refine (hkn.out _ (Ext.refl _)).mono ?_
    rintro e w1 ⟨rfl, hE1⟩
    have hrow1 := hE1.cell hrow
    go_wp2_with fail
    refine (hkn.out _ hE1).mono ?_
    rintro e w3 ⟨rfl, hE3⟩
    go_wp2_with fail
    go_ret
    exact ⟨rfl, hE1.trans hE3⟩
  have Hbig := Lib.hid (show ∀ h : 0 < M.length, M[0].length ≤ 5 from fun h => Nat.le_of_not_lt fun hh => hbig ⟨h, hh⟩)
  clear hbig
  have hcc : c = 0 ∨ (c ≠ 0 ∧ (c == 0) = false ∧ (c != 0) = true) := by
    by_cases h : c = 0
    · exact .inl h
    · exact .inr ⟨h, beq_eq_false_iff_ne.2 h, by simp [bne, beq_eq_false_iff_ne.2 h]⟩
  rcases Nat.eq_zero_or_pos m with h0 | h0
  case' inl =>
    subst h0
    go_enter Tryz.func7, Tryz.ntmps7
    go_wp2_with fail
    refine (hkn.out _ (Ext.refl _)).mono ?_
    rintro e w1 ⟨rfl, hE1⟩
    go_wp2_with fail
  case' inr =>
    have hM0 : 0 < M.length := by rw [← Hm.out]; exact h0
    have hm0 : (0 : Int) < (m : Int) := by omega
    obtain rfl := HSl.out.addr (by rw [Hvl.out]; omega)
    obtain ⟨sr, br, or, cr, hrow, hrc, hSr⟩ := MatR.row HSl.out Hvl.out Hr.out hM0
    have hb := Hbig.out hM0
    obtain ⟨l0, hl0⟩ : ∃ l0, l0 = M[0].length := ⟨_, rfl⟩
    rw [← hl0] at hb
    rw [← hl0, Nat.add_zero] at hrow
    have hbi : ¬ (5 : Int) < (l0 : Int) := by omega
    clear hrc hSr hl0
    go_enter Tryz.func7, Tryz.ntmps7
    go_wp2_with fail
    refine (hkn.out _ (Ext.refl _)).mono ?_
    rintro e w1 ⟨rfl, hE1⟩
    have hrow1 := hE1.cell hrow
    go_wp2_with fail
  all_goals
    refine (hck.out _ hE1).mono ?_
    rintro e w2 ⟨rfl, hE2⟩
    have hE12 := hE1.trans hE2
    rcases hcc with rfl | ⟨hc0, hc1, hc2⟩
    rotate_left
    · clear hck
      go_wp2_with fail
      refine (hkn.out _ hE12).mono ?_
      rintro e w3 ⟨rfl, hE3⟩
      go_wp2_with fail
      go_ret
      exact ⟨rfl, hE12.trans hE3⟩
    have hcM := Hc.out.symm
    obtain ⟨_, _, hrect, hent⟩ := checkM_ok hcM
    have hn5 : ncols M ≤ 5 := by
      rcases Nat.eq_zero_or_pos M.length with h | h
      · rw [List.eq_nil_of_length_eq_zero h]; exact Nat.zero_le _
      · rw [← hrect _ (List.getElem_mem h)]; exact Hbig.out h
    have hm5 : M.length ≤ 5 := by rw [← Hm.out]; omega
    have hbc := bC_lim hm5 hn5
    have hrk := rkB_lim hm5 hn5
    have hfo := Lib.hid (form_any (HM.out.ext hE12) hcM (by omega) (HL.out.ext hE12))
    have hun := Lib.hid (fun W (hW : Ext w2 W) => Unimodular_ok (HM.out.ext (hE12.trans hW)) hcM hbc (HL.out.ext (hE12.trans hW)))
    have hlf := Lib.hid (fun W (hW : Ext w2 W) => form07_any (HM.out.ext (hE12.trans hW)) hrect (by omega) (by omega) hent (by omega) (HL.out.ext (hE12.trans hW)))
    have hur := Lib.hid (fun W (hW : Ext w2 W) => unimod07_any (HM.out.ext (hE12.trans hW)) hcM rfl (by
      have : rkB M.length 30 (ncols M) * (M.length + 1) ≤ 242610 * 6 := Nat.mul_le_mul hrk (by omega)
      omega) (HL.out.ext (hE12.trans hW)))
    rw [← Hm.out] at hfo
    simp only [← Hm.out] at hun hlf hur
    clear hkn hcM hrect hent hbc hrk
    go_wp2_with fail
    refine hfo.out.mono ?_
    rintro e w3 ⟨F, hF, hP, hE23⟩
    have HF := Lib.hid hF
    have Hn5 := Lib.hid hn5
    have Hm5 := Lib.hid hm5
    clear hF hm5 hn5
    cases hs : smallM F
    · rw [hs] at hP
      obtain rfl : e = .returned (.tuple #[.slice none 0 0, .int .i64 4]) := by simpa using hP

      have hun2 := Lib.hid (hun.out w3 hE23)
      clear hfo hun hck
      go_wp2_with fail
      refine hun2.out.mono ?_
      rintro e w4 ⟨b, rfl, hb1, hb2, hE4⟩
      have hE24 := hE23.trans hE4
      have hlf2 := Lib.hid (hlf.out w4 hE24)
      clear hun2 hlf
      go_wp2_with fail
      refine hlf2.out.mono ?_
      rintro e w5 ⟨F2, hF2, hFl2, hP2⟩
      obtain rfl : F2 = F := hF2.unique HF.out (fun v hv => .mem hv) (fun v hv => .mem hv)
      rcases hP2 with ⟨hs2, u2, rfl, hu2, hE5⟩ | ⟨hs2, rfl, hE5⟩
      · rw [hs] at hs2; cases hs2
      · have hE25 := hE24.trans hE5
        have hur2 := Lib.hid (hur.out w5 hE25)
        clear hlf2 hur
        go_wp2_with fail
        refine hur2.out.mono ?_
        rintro e w6 ⟨b2, rfl, k1, k2, k3, hE6⟩
        obtain rfl : b = b2 := uni_same hb1 hb2 k1 k2 k3
        have hE26 := hE25.trans hE6
        clear hb1 hb2 k1 k2 k3 hur2 hF2
        cases b
        all_goals
          have hnn := Lib.hid (none_nil (sa := none) (n := 0) (cp := 0) w6)
          go_wp2_with fail
          refine hnn.out.mono ?_
          rintro e w7 ⟨rfl, hE7⟩
          have hfin := hE12.trans (hE26.trans hE7)
          go_wp2_with fail
          go_ret
          exact ⟨rfl, hfin⟩
    · rw [hs, if_pos rfl] at hP
      obtain ⟨vF, rfl, hFO⟩ := hP
      obtain ⟨fn, hfn⟩ : ∃ fn, fn = F.length := ⟨_, rfl⟩
      have Hfn := Lib.hid hfn
      have HFM := Lib.hid hFO.mat
      have Hncl := Lib.hid (show ncols M ≤ 1000000 by have := Hn5.out; omega)
      obtain ⟨sF, _, _, cF, _, hvF, -⟩ := hFO.mat
      subst hvF
      rw [← hfn]
      clear hFO hfn

      have hun2 := Lib.hid (hun.out w3 hE23)
      clear hfo hun hck
      go_wp2_with fail
      refine hun2.out.mono ?_
      rintro e w4 ⟨b, rfl, hb1, hb2, hE4⟩
      have hE24 := hE23.trans hE4
      have hlf2 := Lib.hid (hlf.out w4 hE24)
      clear hun2 hlf
      go_wp2_with fail
      refine hlf2.out.mono ?_
      rintro e w5 ⟨F2, hF2, hFl2, hP2⟩
      obtain rfl : F2 = F := hF2.unique HF.out (fun v hv => .mem hv) (fun v hv => .mem hv)
      rcases hP2 with ⟨hs2, u2, rfl, hu2, hE5⟩ | ⟨hs2, rfl, hE5⟩
      · have hE25 := hE24.trans hE5
        have hur2 := Lib.hid (hur.out w5 hE25)
        have HU2 := Lib.hid hu2.mat
        obtain ⟨sG, _, _, cG, _, hvG, -⟩ := hu2.mat
        subst hvG
        rw [← Hfn.out]
        clear hu2
        clear hlf2 hur
        go_wp2_with fail
        refine hur2.out.mono ?_
        rintro e w6 ⟨b2, rfl, k1, k2, k3, hE6⟩
        obtain rfl : b = b2 := uni_same hb1 hb2 k1 k2 k3
        have hE26 := hE25.trans hE6
        clear hb1 hb2 k1 k2 k3 hur2 hF2
        cases b
        all_goals
          have heq := Lib.hid (Equal_any ((HFM.out.ext hE4).ext (hE5.trans hE6)) (HU2.out.ext hE6) (by have := Hm5.out; omega) (by
            intro r hr
            obtain ⟨⟨ps, hI⟩, _⟩ := HF.out
            rw [hI.rect r hr]; omega))
          rw [decide_eq_true (rfl : F2 = F2), ← Hfn.out] at heq
          go_wp2_with fail
          refine heq.out.mono ?_
          rintro e w7 ⟨rfl, hE7⟩
          have hfin := hE12.trans (hE26.trans hE7)
          go_wp2_with fail
          go_ret
          exact ⟨rfl, hfin⟩
      · rw [hs] at hs2; cases hs2
end Go.Proofs.YthmhmkkcjlgbjaaGreatDoor
/- what the rows' frames need: the listed variables, matrices opened -/
namespace Go.Proofs.YthmhmkkcjlgbjaaGreatDoor
open Go.ChangeShapes Go.WideShapes Go.ChangeAt Go.WideMaps Go.WideElems Go.RowKit Go.Deep
theorem fr_own : ownKnob Tryz.prog.godebug = none := by kernel_rfl
theorem fr_laidOut : laidOutB Tryz.prog = true := by kernel_rfl
theorem fr_pow : Tryz.prog.globalNamed "internal/strconv.uint64pow10" = some 0 := by kernel_rfl
theorem fr_powT : (Tryz.prog.globals[0]?).map (·.type) = some 212 := by kernel_rfl
theorem fr_rng : Tryz.prog.globalNamed "strconv.ErrRange" = some 3 := by kernel_rfl
theorem fr_rngT : (Tryz.prog.globals[3]?).map (·.type) = some 152 := by kernel_rfl
theorem fr_c20 : Tryz.prog.cellsOf 212 = 20 := by kernel_rfl
theorem fr_cu : Tryz.prog.cellsOf 166 = 1 := by kernel_rfl
theorem fr_cE : Tryz.prog.cellsOf 224 = 1 := by kernel_rfl
theorem fr_cS : Tryz.prog.cellsOf 9 = 1 := by kernel_rfl
theorem fr_cR : Tryz.prog.cellsOf 35 = 1 := by kernel_rfl
theorem fr_cI : Tryz.prog.cellsOf 3 = 1 := by kernel_rfl
theorem fr_star : "*" ++ "errors.errorString" = "*errors.errorString" := by decide
theorem fr_ptr (u : TypeId) (h : Tryz.prog.typeName? 3 u = some "*errors.errorString") : u = 222 :=
  typeName_ptr_named (nm := "errors.errorString") (by rw [fr_star]; kernel_rfl) (by kernel_rfl) (by decide) u (by rw [fr_star]; exact h)
abbrev fr_list : List (String × DataW Unit) := [("math/bits.deBruijn32tab", Rows.laid_math_bits_deBruijn32tab), ("math/bits.deBruijn64tab", Rows.laid_math_bits_deBruijn64tab), ("internal/strconv.uint64pow10", Rows.laid_internal_strconv_uint64pow10), ("strconv.ErrRange", Rows.laid_strconv_ErrRange), ("strconv.ErrSyntax", Rows.laid_strconv_ErrSyntax)]
theorem fr_tab : (Rows.laid_internal_strconv_uint64pow10 : DataW Unit) = Lib.tabData .u64 Lib.pow10Tab := by kernel_rfl
theorem laid_of {W : World} (h : laidMetH Tryz.prog fr_list W) : Laid W := by
  rw [MakeChecks.laidMetH_plain _ _ _ (by kernel_rfl)] at h
  have h3 := h.tail.tail
  rw [fr_tab] at h3
  refine ⟨Lib.tabIs_of_head fr_pow fr_powT Tryz.underlying212 Tryz.underlying166 fr_cu fr_c20 h3, ?_⟩
  obtain ⟨a, s, hv, _⟩ := laid_sentinel h3.tail fr_rng fr_rngT Tryz.underlying152 fr_ptr Tryz.underlying222 Tryz.underlying224 rfl rfl Tryz.underlying9 fr_cE fr_cS
  exact ⟨_, _, hv⟩
/-- The door's own heap meets the condition. -/
theorem door_met (os : Os) (args : Array Value) : laidMetH Tryz.prog fr_list ((World.doorLaid Tryz.prog 400 os).forCall (fun _ _ => 0) ⟨#[], args, []⟩).memory :=
  laidMetH_of_parts3 (fuel := 8) (laidMet_of_run' 8 (by kernel_rfl) (by kernel_rfl)) (by kernel_rfl) (by kernel_rfl)
theorem row_open {W : World} {A : Option Addr} {L C : Nat} {Z : List Int} {base : Nat} (h1 : L ≤ C) (h2 : Z.length = C) (h3 : A = none → C = 0) (h4 : ∀ a', A = some a' → base ≤ a'.block ∧ ∀ c, c < C → W.cell? (a'.add c) = some (.int .i64 (Z.getD c 0))) : RowR W (.slice A L C) (Z.take L) := by
  have hl : (Z.take L).length = L := by rw [List.length_take]; omega
  cases A with
  | none =>
    have hC := h3 rfl
    refine ⟨none, 0, 0, C, by rw [hl], by rw [hl]; exact h1, fun h => ?_, fun i x hx => ?_⟩
    · rw [is_length, hl] at h; omega
    · have := (List.getElem?_eq_some_iff.1 hx).1
      rw [is_length, hl] at this; omega
  | some a =>
    obtain ⟨_, hc⟩ := h4 a rfl
    have hsp : 0 < L → a.spot = none := fun h => by simpa [Addr.add] using World.cell?_spot (hc 0 (by omega))
    obtain ⟨b, o, sp⟩ := a
    refine ⟨some ⟨b, o, sp⟩, b, o, C, by rw [hl], by rw [hl]; exact h1, fun h => ?_, fun i x hx => ?_⟩
    · rw [is_length, hl] at h
      have := hsp h
      simp at this
      rw [this]
    · have hi := (List.getElem?_eq_some_iff.1 hx).1
      rw [is_length, hl] at hi
      have := hsp (by omega)
      simp at this
      subst this
      rw [is_get (by rw [hl]; exact hi)] at hx
      have e := Option.some.inj hx
      rw [← e, ← add_plain, hc i (by omega), List.getElem_take, getD_get (by omega)]
theorem mat_open {H : Type} {enc : TypeId × Value → H} {W : World} {base : Nat} {held : Bool} {fuel : Nat} {v : Value} {x : DataW H × List MemPlace} (hv : v.cells.toList = [v])
    (h : DataW.trod enc Tryz.prog W base (fun _ => true) held fuel 29 v.cells.toList = some x) : ∃ M, MatR W v M := by
  rw [hv] at h
  rcases open_int_rows Tryz.underlying29 Tryz.underlying35 Tryz.underlying3 fr_cR fr_cI h with ⟨hcs, _⟩ | ⟨a, len, cap, A, L, C, Z, hcs, _, hl, _, _, hrows⟩
  · obtain rfl : v = .slice none 0 0 := by simpa using hcs
    exact ⟨[], none, 0, 0, 0, [], rfl, Nat.le_refl _, rfl, Sl.nil _ _ _ _, fun i h => by simp at h⟩
  · obtain rfl : v = .slice (some a) len cap := by simpa using hcs
    have hsp : 0 < len → a.spot = none := fun h => by simpa [Addr.add] using World.cell?_spot (hrows 0 (by omega)).1
    obtain ⟨b, o, sp⟩ := a
    refine ⟨(List.range len).map fun r => (Z r).take (L r), some ⟨b, o, sp⟩, b, o, cap, (List.range len).map fun r => .slice (A r) (L r) (C r), by simp, by simpa using hl, by simp, ⟨fun h => ?_, fun i y hy => ?_⟩, fun i hi hi' => ?_⟩
    · have := hsp (by simpa using h)
      simp at this
      rw [this]
    · have hi := (List.getElem?_eq_some_iff.1 hy).1
      have hil : i < len := by simpa using hi
      have := hsp (by omega)
      simp at this
      subst this
      have e : y = .slice (A i) (L i) (C i) := by
        rw [List.getElem?_eq_getElem hi] at hy
        have := Option.some.inj hy
        rw [← this]; simp
      rw [e, ← add_plain]
      exact (hrows i (by omega)).1
    · have hil : i < len := by simpa using hi
      obtain ⟨_, r1, _, r3, _, r5, r6⟩ := hrows i (by omega)
      have := row_open r1 r3 r5 r6
      simpa using this
end Go.Proofs.YthmhmkkcjlgbjaaGreatDoor
/- schismalaw07.HermiteForms: for every matrix the law returns true, and the matrix reads as it did. No condition but what the card itself prints. -/
namespace Go.Proofs.YthmhmkkcjlgbjaaGreatDoor
open Go.ChangeShapes Go.WideShapes Go.ChangeAt Go.WideMaps Go.WideElems Go.RowKit Go.Deep
set_option maxRecDepth 100000 in
set_option maxHeartbeats 2000000 in
theorem forms_lifted (os : Os) (started : os.Started) (H : Type) (enc : TypeId × Value → H) :
    ReturnsInHanded {} Tryz.checked os 7 .any (fun w args => (Rows.hermiteFormsSpec.pre enc Tryz.prog Tryz.f7 [] false w args ∧ laidMetH Tryz.prog fr_list w) ∧ sizedMet enc Tryz.prog Tryz.f7 (OpenSpec.ofChange Rows.hermiteFormsSpec) false w args)
      (Rows.hermiteFormsSpec.post enc Tryz.prog Tryz.f7 false true false false) := by
  refine returnsInHanded_of_change_and (C := Tryz.checked) (X := fun w _ => laidMetH Tryz.prog fr_list w) (fun _ _ _ hh h => h.of_heap hh) fr_own started (by kernel_rfl) Tryz.func7
    (ChangeSpec.witness_shaped (enc := enc) (C := Tryz.checked) (os := os) (X := fun w _ => laidMetH Tryz.prog fr_list w) false (World.doorLaid Tryz.prog 400 os) #[.slice none 0 0] 8 rfl (World.shaped_of_RefB (by kernel_rfl) (by kernel_rfl)) (by kernel_rfl) (by kernel_rfl) (by kernel_rfl) (door_met os _)) ?_
  intro W base args ds gs before hval0 hW _ _ hL _
  have hval : ∀ (j : Nat) t v, Tryz.f7.params[j]? = some t → args[j]? = some v → Value.okWide Tryz.prog W .any base t v := hval0
  have hW' := hW
  obtain ⟨p, q, hA0, hV, rfl, hfz, hnd⟩ := hW
  have hA : DataW.TrodAll enc Tryz.prog W 0 (fun _ => true) true Tryz.f7.params.toList args.toList ds p := hA0
  rw [Tryz.params7] at hA hval
  obtain ⟨v0, d0, rfl, rfl, h0⟩ := trodAll_one hA
  obtain ⟨rfl, rfl⟩ := trodVars_none hV
  obtain ⟨a0, len, cap, rfl⟩ := okWide_slice Tryz.underlying29 (hval 0 29 v0 rfl rfl)
  have h0k := h0
  obtain ⟨fuel0, hf⟩ := h0
  obtain ⟨M, hM⟩ := mat_open (by simp [Value.cells]) hf
  clear hA0 hval0
  simp only [List.append_nil] at hW'
  have hlt : ∀ x ∈ p, x.block < W.heap.size := fun x hx => by simpa using hW'.lt x hx
  refine (forms_walk hM (laid_of hL)).mono ?_
  rintro e W' ⟨rfl, hE⟩
  have e1 : Rows.hermiteFormsSpec.fn H ([d0] ++ []) = { results := [.lit (.bool true)], args := [d0] } := rfl
  refine ⟨_, rfl, _, _, _, [], p, [], hW', ?_, ?_, ?_, hE.frame _, fun h => by cases h⟩
  · rw [e1]; exact trodAll_mk1 (shut_bool Tryz.underlying4 true)
  · rw [e1]; exact trodAll_mk1 (Below.trod fr_laidOut (by kernel_rfl) (of_decide_eq_true (by kernel_rfl)) h0k hE hlt)
  · rw [e1]; rfl
theorem forms_holds : Rows.HermiteFormsSaid :=
  OpenClaim.holds_of_wide 7 Tryz.f7 rfl rfl rfl rfl rfl rfl rfl ⟨rfl, rfl, rfl, rfl, rfl⟩ rfl rfl rfl rfl rfl (by kernel_rfl) Tryz.func7 (by kernel_rfl)
    (of_decide_eq_true (by kernel_rfl)) (by unfold Func.isWrapper; first | (rw [if_pos (by decide +kernel)]; kernel_rfl) | (rw [if_neg (by decide +kernel)]; exact ⟨rfl, rfl⟩))
    (fun os started H enc _ => forms_lifted os started H enc)
theorem hermiteForms_card : Rows.HermiteFormsCardSaid :=
  Claim7.holds_tied_plain_at .later [] [.data, .data, .data, .sentinel, .sentinel] true Rows.hermiteFormsCard.stood.harness true
    forms_holds (fun _ h => by cases h) (by kernel_rfl) (fun _ h => by cases h) hermiteForms_row_tie rfl ⟨rfl, rfl⟩ (by kernel_rfl) rfl
    (fun f fn hf hfn => by
      obtain rfl : f = 7 := Option.some.inj ((show Tryz.prog.funcNamed "schisma/schismalaw07.HermiteForms" = some 7 by kernel_rfl).symm.trans hf) |>.symm
      obtain rfl : fn = Tryz.f7 := (Option.some.inj (Tryz.func7.symm.trans hfn)).symm
      exact ⟨by kernel_rfl, fun j t ht => by
        rw [Tryz.params7] at ht
        have hm : t ∈ [29] := by simpa using Array.mem_of_getElem? ht
        have hall : ([29].all fun u => !Tryz.prog.wantsStandIn u) = true := by kernel_rfl
        exact (show Tryz.prog.wantsStandIn t = false by simpa using List.all_eq_true.1 hall t hm)⟩)
    (by kernel_rfl)
#print axioms hermiteForms_card
end Go.Proofs.YthmhmkkcjlgbjaaGreatDoor
