/- Part 7, beside the shared parts, of the proof of the claim: contracts and plain laws; no condition. -/
import Derived.Test.YtkjnjmihfonilaaGreatDoorV01
import Derived.Test.YtkjnjmihfonilaaGreatDoorV02
import Derived.Test.YtkjnjmihfonilaaGreatDoorV03
import Derived.Test.YtkjnjmihfonilaaGreatDoorV04
import Derived.Test.YtkjnjmihfonilaaGreatDoorV05
import Derived.Test.YtkjnjmihfonilaaGreatDoorV06
import Derived.Test.YtkjnjmihfonilaaGreatDoorV07
import Derived.Test.YtkjnjmihfonilaaGreatDoorV08
import Derived.Test.YtkjnjmihfonilaaGreatDoorV09
import Derived.Test.YtkjnjmihfonilaaGreatDoorV10
import Derived.Test.YtkjnjmihfonilaaGreatDoorV11
import Derived.Test.YtkjnjmihfonilaaGreatDoorV12
import Derived.Test.YtkjnjmihfonilaaGreatDoorV13
import Derived.Test.YtkjnjmihfonilaaGreatDoorV14
import Derived.Test.YtkjnjmihfonilaaGreatDoorV15
import Derived.Test.YtkjnjmihfonilaaGreatDoorV16
import Derived.Test.YtkjnjmihfonilaaGreatDoorV17
import Derived.Test.YtkjnjmihfonilaaGreatDoorV18
import Derived.Test.YtkjnjmihfonilaaGreatDoorV19
import Derived.Test.YtkjnjmihfonilaaGreatDoorV20
import Derived.Test.YtkjnjmihfonilaaGreatDoorV21
import Derived.Test.YtkjnjmihfonilaaGreatDoorV22
import Derived.Test.YtkjnjmihfonilaaGreatDoorV23
import Derived.Test.YtkjnjmihfonilaaGreatDoorV24
import Derived.Test.YtkjnjmihfonilaaGreatDoorV25
import Derived.Test.YtkjnjmihfonilaaGreatDoorV26
import Derived.Test.YtkjnjmihfonilaaGreatDoorV27
import Derived.Test.YtkjnjmihfonilaaGreatDoorV28
import Derived.Test.YtkjnjmihfonilaaGreatDoorV29
import Derived.Test.YtkjnjmihfonilaaGreatDoorV30
import Derived.Test.YtkjnjmihfonilaaGreatDoorZ01
import Derived.Test.YtkjnjmihfonilaaGreatDoorZ02
import Derived.Test.YtkjnjmihfonilaaGreatDoorZ03
import Derived.Test.YtkjnjmihfonilaaGreatDoorZ04
import Derived.Test.YtkjnjmihfonilaaGreatDoorZ05
import Derived.Test.YtkjnjmihfonilaaGreatDoorZ06
import Derived.Test.YtkjnjmihfonilaaGreatDoorRows
import Derived.ProofKit
import Derived.LaidMore
import Derived.OpenShut
import Derived.Stop.Joined
import Derived.Stop.LaidErr
import Derived.Lib.LaidTab
import Derived.Deep.Matrix
import Derived.Test.YtkjnjmihfonilaaGreatDoorCards
import Derived.Test.YtkjnjmihfonilaaGreatDoorTie
import Derived.SevenTiedAt
namespace Go.Proofs.YtkjnjmihfonilaaGreatDoor
open Go.RowKit Go.Sort
theorem zL_snoc (i p : Nat) : zL i p ++ [List.replicate p 0] = zL (i + 1) p := by
  unfold zL
  rw [List.replicate_succ']
set_option maxRecDepth 100000 in
set_option maxHeartbeats 8000000 in
theorem mny_walk {w : World} {b x : Int} {rv : Value} {Z : List (List Int)} {vals : Bool} (hb : 0 ≤ b ∧ b ≤ 255) (hx : 0 ≤ x ∧ x ≤ 255) (hR : RowsA w rv Z) (hL : Laid w) :
    Calls Tryz.prog 8 #[.agg #[.int .u8 b, rv, .bool vals], .int .u8 x] w fun e w' => e = .returned (.bool true) ∧ Ext w w' := by
  have hkn := Lib.hid (fun W (hW : Ext w W) => known20_any (hL.ext hW))
  have hft := Lib.hid (fun W (hW : Ext w W) => fits18_any (b := b) (vals := vals) (hR.ext hW))
  have hmk := Lib.hid (fun W (hW : Ext w W) (h3 : Z.length ≤ 3) => make18_any (vals := vals) hb (hR.ext hW) h3 (hL.ext hW))
  have HL := Lib.hid hL
  obtain ⟨sa, gb, go, cap, rfl, k1, k2, k3, k4⟩ := id hR
  clear k1 k2 k3 k4
  obtain ⟨rz, hrz⟩ : ∃ rz, rz = Z.length := ⟨_, rfl⟩
  rw [← hrz] at hft hmk ⊢
  obtain ⟨j, hj6, hjx⟩ : ∃ j : Nat, j < 6 ∧ x.tmod 6 = (j : Int) := ⟨(x.tmod 6).toNat, by rw [Int.tmod_eq_emod_of_nonneg hx.1]; omega, by rw [Int.tmod_eq_emod_of_nonneg hx.1]; omega⟩
  obtain ⟨K, hK⟩ : ∃ K, K = 10 + j := ⟨_, rfl⟩
  have hK2 : (10 : Int) + (j : Int) = (K : Int) := by omega
  have hK1 : 10 ≤ K ∧ K ≤ 15 := by omega
  have HK := Lib.hid hK1
  have hXW := (Ext.refl w).alloc (.cells #[.int .u8 b, .slice sa rz cap, .bool vals] 24)
  have p0 : (w.alloc (.cells #[.int .u8 b, .slice sa rz cap, .bool vals] 24)).cell? ⟨w.heap.size, 0, none⟩ = some (.int .u8 b) := by go_simp
  have p1 : (w.alloc (.cells #[.int .u8 b, .slice sa rz cap, .bool vals] 24)).cell? ⟨w.heap.size, 1, none⟩ = some (.slice sa rz cap) := by go_simp
  have p2 : (w.alloc (.cells #[.int .u8 b, .slice sa rz cap, .bool vals] 24)).cell? ⟨w.heap.size, 2, none⟩ = some (.bool vals) := by go_simp
  clear hrz hb hR hL hK hK1
  by_cases hz3 : rz ≤ 3
  rotate_left
  · rw [decide_eq_false hz3] at hft
    clear hmk hz3
    go_enter Tryz.func8, Tryz.ntmps8
    go_wp2_with fail
    refine (hkn.out _ hXW).mono ?_
    rintro e X ⟨rfl, hE1⟩
    have p0 := hE1.cell p0
    have p1 := hE1.cell p1
    have p2 := hE1.cell p2
    have e1 := hXW.trans hE1
    clear hE1
    go_wp2_with fail
    refine (hft.out _ e1).mono ?_
    rintro e X2 ⟨rfl, hE2⟩
    have e2 := e1.trans hE2
    clear hE2
    go_wp2_with fail
    refine (hkn.out _ e2).mono ?_
    rintro e X3 ⟨rfl, hE3⟩
    have e3 := e2.trans hE3
    go_wp2_with fail
    go_ret
    exact ⟨rfl, e3⟩
  · rw [decide_eq_true hz3] at hft
    replace hmk := Lib.hid (fun W hW => hmk.out W hW hz3)
    clear hz3
    go_enter Tryz.func8, Tryz.ntmps8
    go_wp2_with fail
    refine (hkn.out _ hXW).mono ?_
    rintro e X ⟨rfl, hE1⟩
    have p0 := hE1.cell p0
    have p1 := hE1.cell p1
    have p2 := hE1.cell p2
    have e1 := hXW.trans hE1
    clear hE1
    go_wp2_with fail
    refine (hft.out _ e1).mono ?_
    rintro e X2 ⟨rfl, hE2⟩
    have p0 := hE2.cell p0
    have p1 := hE2.cell p1
    have p2 := hE2.cell p2
    have e2 := e1.trans hE2
    clear hE2
    go_wp2_with fail
    refine (hmk.out _ e2).mono ?_
    rintro e X4 ⟨t, C, M, rfl, ht, hE3⟩
    have e4 := e2.trans hE3
    generalize prL b = P at *
    obtain ⟨sp, cp, sc, lc, cc, sm, lm, cm, rfl, hT⟩ := ht.open
    have hml : lm = M.length := by obtain ⟨_, _, _, _, _, e, _⟩ := hT.hM; injection e
    subst hml
    have hp4 := hT.ok.p4
    obtain ⟨psM, hIM⟩ := hT.ok.kM.1
    have hlM : M.length ≤ 4 := by have := isH_len hIM; omega
    have ea := (Ext.refl X4).alloc (.cells #[.slice sp P.length cp, .slice sc lc cc, .slice sm M.length cm] 34)
    have e5 := e4.alloc (.cells #[.slice sp P.length cp, .slice sc lc cc, .slice sm M.length cm] 34)
    have t0 : (X4.alloc (.cells #[.slice sp P.length cp, .slice sc lc cc, .slice sm M.length cm] 34)).cell? ⟨X4.heap.size, 0, none⟩ = some (.slice sp P.length cp) := by go_simp
    have t1 : (X4.alloc (.cells #[.slice sp P.length cp, .slice sc lc cc, .slice sm M.length cm] 34)).cell? ⟨X4.heap.size, 1, none⟩ = some (.slice sc lc cc) := by go_simp
    have t2 : (X4.alloc (.cells #[.slice sp P.length cp, .slice sc lc cc, .slice sm M.length cm] 34)).cell? ⟨X4.heap.size, 2, none⟩ = some (.slice sm M.length cm) := by go_simp
    have HT4 := Lib.hid (hT.ext ea)
    have hgn := Lib.hid (fun W s c (hW : Ext (X4.alloc (.cells #[.slice sp P.length cp, .slice sc lc cc, .slice sm M.length cm] 34)) W) (hl : MatR W (.slice s K c) (zL K P.length)) => gGenerates_zero (HT4.out.ext hW) (by have := HK.out; omega) (by have := HK.out; omega) hl (HL.out.ext (e5.trans hW)))
    have hex := Lib.hid (fun W s c sx cx (hW : Ext (X4.alloc (.cells #[.slice sp P.length cp, .slice sc lc cc, .slice sm M.length cm] 34)) W) (hl : MatR W (.slice s K c) (zL K P.length)) (hx : RowR W (.slice sx M.length cx) (List.replicate M.length 0)) => gExpress_zero (HT4.out.ext hW) (by have := HK.out; omega) (by have := HK.out; omega) hl hx (HL.out.ext (e5.trans hW)))
    clear ht hE3 hmk hft hkn p0 p1 p2 e1 e2 hXW hT hIM ea
    go_wp2_with fail
    go_loopw [6, 7] (fun lv iv wr => ∃ i : Nat, i ≤ K ∧ iv = .int .i64 i ∧ Hid (MatO (X4.alloc (.cells #[.slice sp P.length cp, .slice sc lc cc, .slice sm M.length cm] 34)).heap.size wr lv (zL i P.length)) ∧ Ext (X4.alloc (.cells #[.slice sp P.length cp, .slice sc lc cc, .slice sm M.length cm] 34)) wr) (fun _ iv _ => K - (intOf iv).toNat)
    case atStart => exact ⟨0, by omega, by go_num, Lib.hid (MatO.nil _ _), Ext.refl _⟩
    case round =>
      obtain ⟨i, hi, rfl, HM, hE⟩ := hrel
      rename_i lv wr'
      generalize wr = Y at *
      have t0 := hE.cell t0
      have t1 := hE.cell t1
      have t2 := hE.cell t2
      by_cases hlt : i < K
      · have hii : (i : Int) < (K : Int) := by omega
        obtain ⟨i0, hi0, hz0, hz1, hz2⟩ := info_parts Tryz.infoInt
        have hYs := hE.size
        go_wp2_with (first | (at_make; refine wpList_make_full _ rfl _ _ 26 rfl (X4.alloc (.cells #[.slice sp P.length cp, .slice sc lc cc, .slice sm M.length cm] 34)).heap.size 3 i0 (.int .i64 0) 1 Tryz.underlying26 hi0 hz0 hz1 .i64 .i64 _ _ P.length rfl rfl (by omega) (by omega) (by rw [hz2]; omega) (by unfold maxLen; omega) hYs ?_; intro w1 hown1 hgrow1; have HG := Lib.hid (ext_grown hgrow1); have HO1 := Lib.hid (zero_row hown1); have eA := HG.out.alloc (.cells #[.slice (some ⟨Y.heap.size, 0, none⟩) P.length P.length] 26); clear hown1 hgrow1) | (at_builtin; refine app_lrow rfl _ _ 31 Tryz.underlying31 rfl (B := (X4.alloc (.cells #[.slice sp P.length cp, .slice sc lc cc, .slice sm M.length cm] 34)).heap.size) rfl (HM.out.ext eA) (b := w1.heap.size) (rv := slv Y.heap.size P.length P.length) (r := List.replicate P.length 0) rfl (by go_simp) (HO1.out.ext ((Ext.refl w1).alloc _)) (by rw [zL_length]; omega) (Nat.le_trans hYs eA.size) ?_; intro g9 cap9 w9 hO9 hB9 _; rw [zL_snoc, zL_length] at hO9; have HO9 := Lib.hid hO9; have e9 := Below.trans (hE.trans eA) hB9; clear hO9 hB9))
        go_wp2_with fail
        go_roundw
        case rel => exact ⟨i + 1, by omega, by go_num, HO9, e9⟩
        case measure => simp [intOf] <;> omega
      · obtain rfl : i = K := by omega
        have hmt := HM.out.mat
        obtain ⟨sl, gl, ol, cl, vs, rfl, hlc, _, _, _⟩ := id hmt
        rw [zL_length] at hmt hlc ⊢
        have HMt := Lib.hid hmt
        obtain ⟨i0, hi0, hz0, hz1, hz2⟩ := info_parts Tryz.infoInt
        have hmk2 := Lib.hid (And.intro hi0 (And.intro hz0 (And.intro hz1 hz2)))
        have eY := e5.trans hE
        have hg1 := Lib.hid (hgn.out Y sl cl hE hmt)
        clear hmt hlc HM hi hlt hi0 hz0 hz1 hz2 hgn
        by_cases h12 : 12 < i
        · have h12I : (12 : Int) < (i : Int) := by omega
          replace hg1 := hg1.out
          rw [if_pos h12] at hg1
          have Hg1 := Lib.hid hg1
          have H12 := Lib.hid h12
          clear hg1 h12
          skip
          have hmt := HMt.out
          go_wp2_with fail
          refine Hg1.out.mono ?_
          rintro e Y2 ⟨rfl, hE2⟩
          have t0 := hE2.cell t0
          have t1 := hE2.cell t1
          have t2 := hE2.cell t2
          go_wp2_with (at_make; refine wpList_make_full _ rfl _ _ 26 rfl Y2.heap.size 3 i0 (.int .i64 0) 1 Tryz.underlying26 hmk2.out.1 hmk2.out.2.1 hmk2.out.2.2.1 .i64 .i64 _ _ M.length rfl rfl (by omega) (by omega) (by rw [hmk2.out.2.2.2]; omega) (by unfold maxLen; omega) (Nat.le_refl _) ?_; intro Y3 hown1 hgrow1; have hF3 : Ext Y2 Y3 := ext_grown hgrow1; have HZ := Lib.hid (zero_row hown1).row; have t0 := hF3.cell t0; have t1 := hF3.cell t1; have t2 := hF3.cell t2; clear hown1 hgrow1)
          have hE13 := hE2.trans hF3
          have Hx1 := Lib.hid (hex.out Y3 sl cl _ _ (hE.trans hE13) (HMt.out.ext hE13) HZ.out)
          have eZ := eY.trans hE13
          clear Hg1 hex HZ hmt hF3 hE2
          go_wp2_with fail
          refine Hx1.out.mono ?_
          rintro e Y4 ⟨⟨a9, f9, c9, rfl, h9⟩, hE4⟩
          rw [if_pos H12.out] at h9
          obtain ⟨rfl, rfl, rfl⟩ := h9
          have eF := eZ.trans hE4
          clear Hx1 hE4
          go_wp2_with fail
          go_ret
          exact ⟨rfl, eF⟩
        · have h12I : ¬ (12 : Int) < (i : Int) := by omega
          replace hg1 := hg1.out
          rw [if_neg h12] at hg1
          have H12 := Lib.hid h12
          by_cases hm0 : M.length = 0
          · have hmI : ((M.length : Int) == 0) = true := by rw [hm0]; rfl
            rw [decide_eq_true hm0] at hg1
            have Hg1 := Lib.hid hg1
            clear hg1 h12 hm0
            skip
            have hmt := HMt.out
            go_wp2_with fail
            refine Hg1.out.mono ?_
            rintro e Y2 ⟨rfl, hE2⟩
            have t0 := hE2.cell t0
            have t1 := hE2.cell t1
            have t2 := hE2.cell t2
            go_wp2_with (at_make; refine wpList_make_full _ rfl _ _ 26 rfl Y2.heap.size 3 i0 (.int .i64 0) 1 Tryz.underlying26 hmk2.out.1 hmk2.out.2.1 hmk2.out.2.2.1 .i64 .i64 _ _ M.length rfl rfl (by omega) (by omega) (by rw [hmk2.out.2.2.2]; omega) (by unfold maxLen; omega) (Nat.le_refl _) ?_; intro Y3 hown1 hgrow1; have hF3 : Ext Y2 Y3 := ext_grown hgrow1; have HZ := Lib.hid (zero_row hown1).row; have t0 := hF3.cell t0; have t1 := hF3.cell t1; have t2 := hF3.cell t2; clear hown1 hgrow1)
            have hE13 := hE2.trans hF3
            have Hx1 := Lib.hid (hex.out Y3 sl cl _ _ (hE.trans hE13) (HMt.out.ext hE13) HZ.out)
            have eZ := eY.trans hE13
            clear Hg1 hex HZ hmt hF3 hE2
            go_wp2_with fail
            refine Hx1.out.mono ?_
            rintro e Y4 ⟨⟨a9, f9, c9, rfl, h9⟩, hE4⟩
            rw [if_neg H12.out] at h9
            obtain ⟨⟨s9, cc9, rfl⟩, rfl, rfl⟩ := h9
            have eF := eZ.trans hE4
            clear Hx1 hE4
            go_wp2_with fail
            go_ret
            exact ⟨rfl, eF⟩
          · have hmI : ((M.length : Int) == 0) = false := beq_eq_false_iff_ne.2 (by omega)
            rw [decide_eq_false hm0] at hg1
            have Hg1 := Lib.hid hg1
            clear hg1 h12 hm0
            skip
            have hmt := HMt.out
            go_wp2_with fail
            refine Hg1.out.mono ?_
            rintro e Y2 ⟨rfl, hE2⟩
            have t0 := hE2.cell t0
            have t1 := hE2.cell t1
            have t2 := hE2.cell t2
            go_wp2_with (at_make; refine wpList_make_full _ rfl _ _ 26 rfl Y2.heap.size 3 i0 (.int .i64 0) 1 Tryz.underlying26 hmk2.out.1 hmk2.out.2.1 hmk2.out.2.2.1 .i64 .i64 _ _ M.length rfl rfl (by omega) (by omega) (by rw [hmk2.out.2.2.2]; omega) (by unfold maxLen; omega) (Nat.le_refl _) ?_; intro Y3 hown1 hgrow1; have hF3 : Ext Y2 Y3 := ext_grown hgrow1; have HZ := Lib.hid (zero_row hown1).row; have t0 := hF3.cell t0; have t1 := hF3.cell t1; have t2 := hF3.cell t2; clear hown1 hgrow1)
            have hE13 := hE2.trans hF3
            have Hx1 := Lib.hid (hex.out Y3 sl cl _ _ (hE.trans hE13) (HMt.out.ext hE13) HZ.out)
            have eZ := eY.trans hE13
            clear Hg1 hex HZ hmt hF3 hE2
            go_wp2_with fail
            refine Hx1.out.mono ?_
            rintro e Y4 ⟨⟨a9, f9, c9, rfl, h9⟩, hE4⟩
            rw [if_neg H12.out] at h9
            obtain ⟨⟨s9, cc9, rfl⟩, rfl, rfl⟩ := h9
            have eF := eZ.trans hE4
            clear Hx1 hE4
            go_wp2_with fail
            go_ret
            exact ⟨rfl, eF⟩
end Go.Proofs.YtkjnjmihfonilaaGreatDoor
namespace Go.Proofs.YtkjnjmihfonilaaGreatDoor
open Go.ChangeShapes Go.WideShapes Go.ChangeAt Go.WideMaps Go.WideElems Go.RowKit Go.Deep
theorem fr_own : ownKnob Tryz.prog.godebug = none := by kernel_rfl
theorem fr_laidOut : laidOutB Tryz.prog = true := by kernel_rfl
theorem fr_pow : Tryz.prog.globalNamed "internal/strconv.uint64pow10" = some 2 := by kernel_rfl
theorem fr_powT : (Tryz.prog.globals[2]?).map (·.type) = some 260 := by kernel_rfl
theorem fr_rng : Tryz.prog.globalNamed "strconv.ErrRange" = some 1 := by kernel_rfl
theorem fr_rngT : (Tryz.prog.globals[1]?).map (·.type) = some 134 := by kernel_rfl
theorem fr_c20 : Tryz.prog.cellsOf 260 = 20 := by kernel_rfl
theorem fr_cu : Tryz.prog.cellsOf 126 = 1 := by kernel_rfl
theorem fr_cE : Tryz.prog.cellsOf 266 = 1 := by kernel_rfl
theorem fr_cS : Tryz.prog.cellsOf 9 = 1 := by kernel_rfl
theorem fr_star : "*" ++ "errors.errorString" = "*errors.errorString" := by decide
theorem fr_ptr (u : TypeId) (h : Tryz.prog.typeName? 3 u = some "*errors.errorString") : u = 264 :=
  typeName_ptr_named (nm := "errors.errorString") (by rw [fr_star]; kernel_rfl) (by kernel_rfl) (by decide) u (by rw [fr_star]; exact h)
abbrev fr_list : List (String × DataW Unit) := [("math/bits.deBruijn32tab", Rows.laid_math_bits_deBruijn32tab), ("math/bits.deBruijn64tab", Rows.laid_math_bits_deBruijn64tab), ("internal/strconv.uint64pow10", Rows.laid_internal_strconv_uint64pow10), ("strconv.ErrRange", Rows.laid_strconv_ErrRange), ("strconv.ErrSyntax", Rows.laid_strconv_ErrSyntax)]
theorem fr_tab : (Rows.laid_internal_strconv_uint64pow10 : DataW Unit) = Lib.tabData .u64 Lib.pow10Tab := by kernel_rfl
theorem laid_of {W : World} (h : laidMetH Tryz.prog fr_list W) : Laid W := by
  rw [MakeChecks.laidMetH_plain _ _ _ (by kernel_rfl)] at h
  have h3 := h.tail.tail
  rw [fr_tab] at h3
  refine ⟨Lib.tabIs_of_head fr_pow fr_powT Tryz.underlying260 Tryz.underlying126 fr_cu fr_c20 h3, ?_⟩
  obtain ⟨a, s, hv, _⟩ := laid_sentinel h3.tail fr_rng fr_rngT Tryz.underlying134 fr_ptr Tryz.underlying264 Tryz.underlying266 rfl rfl Tryz.underlying9 fr_cE fr_cS
  exact ⟨_, _, hv⟩
theorem door_met (os : Os) (args : Array Value) : laidMetH Tryz.prog fr_list ((World.doorLaid Tryz.prog 400 os).forCall (fun _ _ => 0) ⟨#[], args, []⟩).memory :=
  laidMetH_of_parts3 (fuel := 8) (laidMet_of_run' 8 (by kernel_rfl) (by kernel_rfl)) (by kernel_rfl) (by kernel_rfl)
end Go.Proofs.YtkjnjmihfonilaaGreatDoor
namespace Go.Proofs.YtkjnjmihfonilaaGreatDoor
open Go.ChangeShapes Go.WideShapes Go.ChangeAt Go.WideMaps Go.WideElems Go.RowKit Go.Deep
theorem fr_c8 : Tryz.prog.cellsOf 51 = 1 := by kernel_rfl
theorem take_one {l : List Value} {k : Nat} {x : Value} (h : (l.drop k).take 1 = [x]) : l[k]? = some x := by
  have := congrArg (·[0]?) h
  simpa [List.getElem?_take] using this
theorem i8_bounds {n : Int} (h : (Lit.int .i8 n).wf = true) : -128 ≤ n ∧ n ≤ 127 := by
  simp only [Lit.wf, Bool.and_eq_true, decide_eq_true_eq] at h
  have e1 : IntKind.i8.min = -128 := by rfl
  have e2 : IntKind.i8.max = 127 := by rfl
  omega
theorem u8_bounds {n : Int} (h : (Lit.int .u8 n).wf = true) : 0 ≤ n ∧ n ≤ 255 := by
  simp only [Lit.wf, Bool.and_eq_true, decide_eq_true_eq] at h
  have e1 : IntKind.u8.min = 0 := by rfl
  have e2 : IntKind.u8.max = 255 := by rfl
  omega
theorem i8_cells {H : Type} {enc : TypeId × Value → H} {W : World} {base : Nat} {sp : Nat → Bool} {held : Bool} {fuel n : Nat} {t : TypeId} {l : List Value} {x : DataW H × List MemPlace} (ht : Tryz.prog.underlying t = some (.array n 51))
    (h : DataW.trod enc Tryz.prog W base sp held fuel t l = some x) : ∀ j, j < n → ∃ z : Int, l[j]? = some (.int .i8 z) ∧ -128 ≤ z ∧ z ≤ 127 := by
  obtain ⟨xs, m, _, _, _, hxl, hx⟩ := DataW.trod_array ht h
  intro j hj
  have h1 := hx j hj
  rw [fr_c8, Nat.mul_one, List.getElem?_eq_getElem (by omega)] at h1
  obtain ⟨z, hz, _, hw⟩ := DataW.trod_int Tryz.underlying51 h1
  exact ⟨z, take_one hz, i8_bounds hw⟩
end Go.Proofs.YtkjnjmihfonilaaGreatDoor
namespace Go.Proofs.YtkjnjmihfonilaaGreatDoor
open Go.ChangeShapes Go.WideShapes Go.ChangeAt Go.WideMaps Go.WideElems Go.RowKit Go.Deep
theorem fr_cP18 : Tryz.prog.cellsOf 24 = 3 := by kernel_rfl
theorem fr_cA4 : Tryz.prog.cellsOf 52 = 4 := by kernel_rfl
theorem cells_four {W : World} {base : Nat} {a : Addr} {l : List Value} (h : W.cells? base a 4 = some l) : ∀ j, j < 4 → W.cell? (a.add j) = l[j]? := by
  unfold World.cells? at h
  split at h
  case isFalse => cases h
  intro j hj
  have hj2 := Go.mapM_some_get h j
  have hl : l.length = 4 := by
    have := Go.mapM_some_length h
    simpa using this
  have h0 := hj2 j (by simp [hj])
  simpa using h0
theorem rowsA_open {H : Type} {enc : TypeId × Value → H} {W : World} {base : Nat} {held : Bool} {fuel : Nat} {l : List Value} {x : DataW H × List MemPlace}
    (h : DataW.trod enc Tryz.prog W base (fun _ => true) held fuel 22 l = some x) : ∃ v Z, l = [v] ∧ RowsA W v Z := by
  rcases open_slice Tryz.underlying22 h with ⟨hcs, _⟩ | ⟨a, len, cap, m, n, D, Pl, hcs, _, hl, hmx, hm, _, hel⟩
  · exact ⟨.slice none 0 0, [], hcs, none, 0, 0, 0, rfl, Nat.le_refl _, fun h => by simp at h, fun i h => by simp at h, fun i h => by simp at h⟩
  · rw [if_pos rfl] at hm
    subst hm
    rw [fr_cA4] at hel
    have hex : ∀ i, i < len → ∃ zs : List Int, (zs.length = 4 ∧ ∀ z ∈ zs, -128 ≤ z ∧ z ≤ 127) ∧ ∀ j, j < 4 → W.cell? (a.add (i * 4 + j)) = some (.int .i8 (zs.getD j 0)) := by
      intro i hi
      obtain ⟨cs', h1, h2⟩ := hel i (by omega)
      have h3 := i8_cells Tryz.underlying52 h2
      have h4 := cells_four h1
      obtain ⟨z0, k0, b0⟩ := h3 0 (by omega)
      obtain ⟨z1, k1, b1⟩ := h3 1 (by omega)
      obtain ⟨z2, k2, b2⟩ := h3 2 (by omega)
      obtain ⟨z3, k3, b3⟩ := h3 3 (by omega)
      refine ⟨[z0, z1, z2, z3], ⟨rfl, fun z hz => ?_⟩, fun j hj => ?_⟩
      · simp only [List.mem_cons, List.not_mem_nil, or_false] at hz
        rcases hz with rfl | rfl | rfl | rfl <;> assumption
      · rw [← add_add, h4 j hj]
        rcases (show j = 0 ∨ j = 1 ∨ j = 2 ∨ j = 3 by omega) with rfl | rfl | rfl | rfl
        · exact k0
        · exact k1
        · exact k2
        · exact k3
    obtain ⟨f, hf⟩ := choose_lt hex
    have hsp : 0 < len → a.spot = none := fun h => by simpa [Addr.add] using World.cell?_spot ((hf 0 h).2 0 (by omega))
    obtain ⟨b, o, sp⟩ := a
    refine ⟨_, (List.range len).map f, hcs, some ⟨b, o, sp⟩, b, o, m, by simp, by simpa using hl, fun h => ?_, fun i hi => ?_, fun i hi j hj => ?_⟩
    · have := hsp (by simpa using h)
      simp at this
      rw [this]
    · have hi' : i < len := by simpa using hi
      simpa using (hf i hi').1
    · have hi' : i < len := by simpa using hi
      have := hsp (by omega)
      simp at this
      subst this
      have k1 := (hf i hi').2 j hj
      rw [add_plain] at k1
      rw [show o + 4 * i + j = o + (i * 4 + j) by omega, k1]
      simp
theorem list3t {l : List Value} {a b c : Value} (hl : l.length = 3) (h0 : (l.drop 0).take 1 = [a]) (h1 : (l.drop 1).take 1 = [b]) (h2 : (l.drop 2).take 1 = [c]) : l = [a, b, c] := by
  match l, hl with
  | [p, q, r], _ =>
    simp at h0 h1 h2
    subst h0 h1 h2
    rfl
set_option maxRecDepth 100000 in
theorem plan18_open {H : Type} {enc : TypeId × Value → H} {W : World} {base : Nat} {held : Bool} {fuel : Nat} {cs : Array Value} {x : DataW H × List MemPlace} (hs : cs.size = 3)
    (h : DataW.trod enc Tryz.prog W base (fun _ => true) held fuel 24 cs.toList = some x) : ∃ b rv vals Z, cs = #[.int .u8 b, rv, .bool vals] ∧ (0 ≤ b ∧ b ≤ 255) ∧ RowsA W rv Z := by
  obtain ⟨xs, n, _, _, _, hxl, hx⟩ := DataW.trod_struct Tryz.underlying24 h
  have hx3 : xs.length = 3 := hxl
  have h0 := hx 0 _ rfl
  have h1 := hx 1 _ rfl
  have h2 := hx 2 _ rfl
  rw [List.getElem?_eq_getElem (by omega)] at h0 h1 h2
  have h0' : DataW.trod enc Tryz.prog W base (fun _ => true) held n 5 ((cs.toList.drop 0).take 1) = some xs[0] := h0
  have h1' : DataW.trod enc Tryz.prog W base (fun _ => true) held n 22 ((cs.toList.drop 1).take 1) = some xs[1] := h1
  have h2' : DataW.trod enc Tryz.prog W base (fun _ => true) held n 4 ((cs.toList.drop 2).take 1) = some xs[2] := h2
  obtain ⟨b, hb, _, wb⟩ := DataW.trod_int Tryz.underlying5 h0'
  obtain ⟨v, Z, hv, hZ⟩ := rowsA_open h1'
  obtain ⟨vals, hvl, _⟩ := DataW.trod_bool Tryz.underlying4 h2'
  have hl := list3t (by simpa using hs) hb hv hvl
  exact ⟨b, v, vals, Z, by rw [show cs = cs.toList.toArray from Array.toArray_toList.symm, hl], u8_bounds wb, hZ⟩
end Go.Proofs.YtkjnjmihfonilaaGreatDoor
namespace Go.Proofs.YtkjnjmihfonilaaGreatDoor
open Go.ChangeShapes Go.WideShapes Go.ChangeAt Go.WideMaps Go.WideElems Go.RowKit Go.Deep
set_option maxRecDepth 100000 in
set_option maxHeartbeats 2000000 in
theorem generatorMany_lifted (os : Os) (started : os.Started) (H : Type) (enc : TypeId × Value → H) :
    ReturnsInHanded {} Tryz.checked os 8 .any (fun w args => (Rows.generatorManySpec.pre enc Tryz.prog Tryz.f8 [] false w args ∧ laidMetH Tryz.prog fr_list w) ∧ sizedMet enc Tryz.prog Tryz.f8 (OpenSpec.ofChange Rows.generatorManySpec) false w args)
      (Rows.generatorManySpec.post enc Tryz.prog Tryz.f8 false true false false) := by
  refine returnsInHanded_of_change_and (C := Tryz.checked) (X := fun w _ => laidMetH Tryz.prog fr_list w) (fun _ _ _ hh h => h.of_heap hh) fr_own started (by kernel_rfl) Tryz.func8
    (ChangeSpec.witness_shaped (enc := enc) (C := Tryz.checked) (os := os) (X := fun w _ => laidMetH Tryz.prog fr_list w) false (World.doorLaid Tryz.prog 400 os) #[.agg #[.int .u8 0, .slice none 0 0, .bool false], .int .u8 0] 8 rfl (World.shaped_of_RefB (by kernel_rfl) (by kernel_rfl)) (by kernel_rfl) (by kernel_rfl) (by kernel_rfl) (door_met os _)) ?_
  intro W base args ds gs before hval0 hW _ _ hL _
  have hval : ∀ (j : Nat) t v, Tryz.f8.params[j]? = some t → args[j]? = some v → Value.okWide Tryz.prog W .any base t v := hval0
  have hW' := hW
  obtain ⟨p, q, hA0, hV, rfl, hfz, hnd⟩ := hW
  have hA : DataW.TrodAll enc Tryz.prog W 0 (fun _ => true) true Tryz.f8.params.toList args.toList ds p := hA0
  rw [Tryz.params8] at hA hval
  obtain ⟨v0, v1, d0, d1, p0, p1, rfl, rfl, rfl, h0, h1⟩ := trodAll_two hA
  obtain ⟨rfl, rfl⟩ := trodVars_none hV
  obtain ⟨cs0, rfl, hs0⟩ := okWide_struct Tryz.underlying24 (hval 0 24 v0 rfl rfl)
  rw [fr_cP18] at hs0
  obtain ⟨n1, rfl, e1, _, w1⟩ := open_int Tryz.underlying5 (hval 1 5 v1 rfl rfl) h1
  have h0k := h0
  have h1k := h1
  obtain ⟨fuel0, hf0⟩ := h0
  obtain ⟨B0, rv0, vl0, Z0, rfl, hB0, hZ0⟩ := plan18_open hs0 hf0
  have b1 := u8_bounds w1
  clear hA0 hval0 hf0
  simp only [List.append_nil] at hW'
  have hlt : ∀ z ∈ p0 ++ p1, z.block < W.heap.size := fun z hz => by simpa using hW'.lt z hz
  refine (mny_walk hB0 b1 hZ0 (laid_of hL)).mono ?_
  rintro e W' ⟨rfl, hE⟩
  have e1 : Rows.generatorManySpec.fn H ([d0, d1] ++ []) = { results := [.lit (.bool true)], args := [d0, d1] } := rfl
  refine ⟨_, rfl, _, _, _, [], p0 ++ p1, [], hW', ?_, ?_, ?_, hE.frame _, fun h => by cases h⟩
  · rw [e1]; exact trodAll_mk1 (shut_bool Tryz.underlying4 true)
  · rw [e1]; exact trodAll_mk2 (Below.trod fr_laidOut (by kernel_rfl) (of_decide_eq_true (by kernel_rfl)) h0k hE fun x hx => hlt x (by simp [hx])) (Below.trod fr_laidOut (by kernel_rfl) (of_decide_eq_true (by kernel_rfl)) h1k hE fun x hx => hlt x (by simp [hx]))
  · rw [e1]; rfl
set_option maxHeartbeats 20000000 in
theorem generatorMany_holds : Rows.GeneratorManySaid :=
  OpenClaim.holds_of_wide 8 Tryz.f8 rfl rfl rfl rfl rfl rfl rfl ⟨rfl, rfl, rfl, rfl, rfl⟩ rfl rfl rfl rfl rfl (by as_aux_lemma => kernel_rfl) Tryz.func8 (by
      unfold joinedFacts
      simp only [Bool.and_eq_true]
      repeat' apply And.intro
      all_goals (as_aux_lemma => kernel_rfl))
    (of_decide_eq_true (by kernel_rfl)) (by unfold Func.isWrapper; first | (rw [if_pos (by decide +kernel)]; kernel_rfl) | (rw [if_neg (by decide +kernel)]; exact ⟨rfl, rfl⟩))
    (fun os started H enc _ => generatorMany_lifted os started H enc)
set_option maxHeartbeats 20000000 in
theorem generatorMany_card : Rows.GeneratorManyCardSaid :=
  Claim7.holds_tied_plain_at .later [] [.data, .data, .data, .sentinel, .sentinel] true Rows.generatorManyCard.stood.harness true
    generatorMany_holds (fun _ h => by cases h) (by as_aux_lemma => kernel_rfl) (fun _ h => by cases h) generatorMany_row_tie rfl ⟨rfl, rfl⟩ (by as_aux_lemma => kernel_rfl) rfl
    (fun f fn hf hfn => by
      obtain rfl : f = 8 := Option.some.inj ((show Tryz.prog.funcNamed "schisma/schismalaw20.GeneratorMany" = some 8 by as_aux_lemma => kernel_rfl).symm.trans hf) |>.symm
      obtain rfl : fn = Tryz.f8 := (Option.some.inj (Tryz.func8.symm.trans hfn)).symm
      exact ⟨by as_aux_lemma => kernel_rfl, fun j t ht => by
        rw [Tryz.params8] at ht
        have hm : t ∈ [24, 5] := by simpa using Array.mem_of_getElem? ht
        have hall : ([24, 5].all fun u => !Tryz.prog.wantsStandIn u) = true := by as_aux_lemma => kernel_rfl
        exact (show Tryz.prog.wantsStandIn t = false by simpa using List.all_eq_true.1 hall t hm)⟩)
    (by as_aux_lemma => kernel_rfl)
#print axioms generatorMany_card
end Go.Proofs.YtkjnjmihfonilaaGreatDoor
