/- Part 31 of the proof of the claim: contracts of the functions that it reaches, and plain laws; no condition. -/
import Derived.Test.YtnlajhjoakijmaaGreatDoorV25
import Derived.Test.YtnlajhjoakijmaaGreatDoorV11
import Derived.Test.YtnlajhjoakijmaaGreatDoorV30
import Derived.BigFrame
import Derived.BigQuiet
import Derived.Test.YtnlajhjoakijmaaGreatDoorV02
import Derived.Test.YtnlajhjoakijmaaGreatDoorRows
import Derived.ProofKit
import Derived.LaidMore
import Derived.OpenShut
import Derived.Stop.Joined
import Derived.Stop.LaidErr
import Derived.Lib.LaidTab
import Derived.Deep.Matrix
namespace Go.Proofs.YtnlajhjoakijmaaGreatDoor
open Go.RowKit Go.Sort
set_option maxRecDepth 100000 in
set_option maxHeartbeats 1000000 in
theorem index_tempersOut {w : World} {sa : Option Addr} {gb go cap : Nat} {vs : List Value} {p : Nat → Bool} {k : Int} (hS : Sl w sa gb go vs) (hl : vs.length ≤ 1000000)
    (hF : ∀ i (h : i < vs.length) W, Ext w W → Calls Tryz.prog 60 #[vs[i]] W fun e w' => e = .returned (.bool (p i)) ∧ Ext W w') (hk : IxR p vs.length k) :
    Calls Tryz.prog 97 #[.slice sa vs.length cap, .func (.func 60) #[] #[]] w fun e w' => e = .returned (.int .i64 k) ∧ Ext w w' := by
  have HF := Lib.hid hF
  have HK := Lib.hid hk
  have HS := Lib.hid hS
  clear hF hk hS
  go_enter Tryz.func97, Tryz.ntmps97
  go_wp2_with fail
  go_loopw [8] (fun idx wr => ∃ i : Nat, i ≤ vs.length ∧ idx = .int .i64 i ∧ Hid (∀ j, j < i → p j = false) ∧ Ext w wr) (fun idx _ => vs.length - (intOf idx).toNat)
  case atStart => exact ⟨0, by omega, by go_num, Lib.hid (fun j h => by omega), Ext.refl _⟩
  case round =>
    obtain ⟨i, hi, rfl, Hp, hE⟩ := hrel
    generalize wr = X at *
    by_cases hlt : i < vs.length
    · have hii : (i : Int) < (vs.length : Int) := by omega
      obtain ⟨u, hu⟩ : ∃ u, u = vs[i] := ⟨_, rfl⟩
      have hc := hE.cell (HS.out.cell i u (by rw [hu]; exact List.getElem?_eq_getElem hlt))
      obtain rfl := HS.out.addr (by omega)
      have hf := HF.out i hlt X hE
      rw [← hu] at hf
      have Hf := Lib.hid hf
      clear hf hu
      cases hpi : p i
      · rw [hpi] at Hf
        have Hpi := Lib.hid hpi
        clear hpi
        go_wp2_with fail
        refine Hf.out.mono ?_
        rintro e W ⟨rfl, hE2⟩
        go_wp2_with fail
        go_roundw
        case rel => exact ⟨i + 1, by omega, by go_num, Lib.hid (fun j hj => by
          by_cases e : j = i
          · subst e; exact Hpi.out
          · exact Hp.out j (by omega)), hE.trans hE2⟩
        case measure => simp [intOf] <;> omega
      · rw [hpi] at Hf
        have Hki := Lib.hid (IxR_at HK.out hlt hpi Hp.out)
        clear hpi
        go_wp2_with fail
        refine Hf.out.mono ?_
        rintro e W ⟨rfl, hE2⟩
        go_wp2_with fail
        go_ret
        exact ⟨by rw [Hki.out]; rfl, hE.trans hE2⟩
    · have Hki := Lib.hid (IxR_no HK.out (fun j hj => Hp.out j (by omega)))
      go_wp2_with fail
      go_ret
      exact ⟨by rw [Hki.out]; rfl, hE⟩
set_option maxRecDepth 100000 in
theorem contains_tempersOut {w : World} {sa : Option Addr} {gb go cap : Nat} {vs : List Value} {p : Nat → Bool} (hS : Sl w sa gb go vs) (hl : vs.length ≤ 1000000)
    (hF : ∀ i (h : i < vs.length) W, Ext w W → Calls Tryz.prog 60 #[vs[i]] W fun e w' => e = .returned (.bool (p i)) ∧ Ext W w') :
    Calls Tryz.prog 59 #[.slice sa vs.length cap, .func (.func 60) #[] #[]] w fun e w' => e = .returned (.bool (anyB p vs.length)) ∧ Ext w w' := by
  obtain ⟨k, hk⟩ := IxR_ex p vs.length
  have Hge := Lib.hid (IxR_ge hk)
  have HI := Lib.hid (index_tempersOut (cap := cap) hS hl hF hk)
  clear hS hF hk
  go_enter Tryz.func59, Tryz.ntmps59
  go_wp2_with fail
  refine HI.out.mono ?_
  rintro e W ⟨rfl, hE⟩
  go_wp2_with fail
  go_ret
  exact ⟨by rw [← Hge.out]; rfl, hE⟩
theorem tempersOutC_any (z : Int) (w : World) : Calls Tryz.prog 60 #[I z] w fun e w' => e = .returned (.bool (decide (z ≠ 0))) ∧ Ext w w' := by
  have hitz : (Lib.itoa z == [48]) = decide (z = 0) := itoa_eq_zero z
  by_cases h : z = 0
  · rw [decide_eq_true h] at hitz
    have hb : decide (z ≠ 0) = false := decide_eq_false (by simpa using h)
    rw [hb]
    clear h hb
    go_enter Tryz.func60, Tryz.ntmps60
    go_wp2
    go_ret
    exact ⟨rfl, Ext.refl _⟩
  · rw [decide_eq_false h] at hitz
    have hb : decide (z ≠ 0) = true := decide_eq_true h
    rw [hb]
    have hitz2 : (Lib.itoa z != [48]) = true := by simp [bne, hitz]
    clear h hb
    go_enter Tryz.func60, Tryz.ntmps60
    go_wp2
    go_ret
    exact ⟨rfl, Ext.refl _⟩
set_option maxRecDepth 100000 in
set_option maxHeartbeats 4000000 in
theorem tempersOut_ok {w : World} {P : List Int} {C M : Mx} {sp : Option Addr} {cp : Nat} {sc : Option Addr} {lc cc : Nat} {sm : Option Addr} {lm cm : Nat} {sx : Option Addr} {n cx : Nat} {x : List Int} (h : TmV w P C M M sp cp sc lc cc sm lm cm) (hx : RowR w (.slice sx n cx) x) (hb : bgE P.length x = 0) (h0 : ∀ z ∈ tmpL M x, z = 0) (hL : Laid w) :
    Calls Tryz.prog 30 #[tmS P sp cp sc lc cc sm lm cm, .slice sx n cx] w fun e w' => e = .returned (.tuple #[.bool true, .int .i64 0]) ∧ Ext w w' := by
  have hbe := fun W b (hW : Ext w W) (hc : W.cell? ⟨b, 0, none⟩ = some (.slice sx n cx)) => begin1_any (b := b) (h.ext hW) hc (hx.ext hW) (hL.ext hW)
  rw [hb] at hbe
  have Hbe := Lib.hid hbe
  obtain ⟨hcx, hlx⟩ := bgE_ok hb
  have hte := Lib.hid (fun W (hW : Ext w W) => temper_any (h.ext hW) (hx.ext hW) hcx hlx (hL.ext hW))
  obtain ⟨psM, hIM⟩ := h.ok.kM.1
  have hlM := isH_len hIM
  have hp4 := h.ok.p4
  have hX := (Ext.refl w).alloc (.cells #[.slice sp P.length cp, .slice sc lc cc, .slice sm lm cm] 34)
  have x0 : (w.alloc (.cells #[.slice sp P.length cp, .slice sc lc cc, .slice sm lm cm] 34)).cell? ⟨w.heap.size, 0, none⟩ = some (.slice sp P.length cp) := by go_simp
  have x1 : (w.alloc (.cells #[.slice sp P.length cp, .slice sc lc cc, .slice sm lm cm] 34)).cell? ⟨w.heap.size, 1, none⟩ = some (.slice sc lc cc) := by go_simp
  have x2 : (w.alloc (.cells #[.slice sp P.length cp, .slice sc lc cc, .slice sm lm cm] 34)).cell? ⟨w.heap.size, 2, none⟩ = some (.slice sm lm cm) := by go_simp
  have xb : ((w.alloc (.cells #[.slice sp P.length cp, .slice sc lc cc, .slice sm lm cm] 34)).alloc (.cells #[.slice sx n cx] 30)).cell? ⟨w.heap.size + 1, 0, none⟩ = some (.slice sx n cx) := by go_simp
  have hlen : (tmpL M x).length ≤ 4 := by rw [tmpL_length]; omega
  have H0 := Lib.hid h0
  clear hbe hcx hlx hIM hlM hp4 h hx hL hb h0
  go_enter Tryz.func30, Tryz.ntmps30
  go_wp2_with fail
  refine (Hbe.out _ (w.heap.size + 1) (hX.alloc (.cells #[.slice sx n cx] 30)) xb).mono ?_
  generalize w.alloc (.cells #[.slice sp P.length cp, .slice sc lc cc, .slice sm lm cm] 34) = V at *
  rintro e X ⟨rfl, hE1⟩
  have y0 := hE1.cell (((Ext.refl V).alloc (.cells #[.slice sx n cx] 30)).cell x0)
  have y1 := hE1.cell (((Ext.refl V).alloc (.cells #[.slice sx n cx] 30)).cell x1)
  have y2 := hE1.cell (((Ext.refl V).alloc (.cells #[.slice sx n cx] 30)).cell x2)
  have e1 := (hX.alloc (.cells #[.slice sx n cx] 30)).trans hE1
  clear x0 x1 x2 xb Hbe hX hE1
  go_wp2_with fail
  refine (hte.out _ e1).mono ?_
  rintro e X2 ⟨v1, rfl, hv1, hE2⟩
  obtain ⟨ga, gb, cap, rfl, hcap, hS⟩ := hv1.sl
  have hcf := contains_tempersOut (cap := cap) (p := fun i => decide ((tmpL M x).getD i 0 ≠ 0)) hS (by rw [ss_length]; omega) (fun i hi W hW => by
    have hi' : i < (tmpL M x).length := by simpa using hi
    have e : (ss (tmpL M x))[i] = I ((tmpL M x).getD i 0) := by rw [getD_get hi']; simp [ss]
    rw [e]; exact tempersOutC_any _ W)
  rw [anyB_no (fun i hi => by
    rw [ss_length] at hi
    have := H0.out _ (List.getElem_mem hi)
    rw [getD_get hi, this]; rfl), ss_length, tmpL_length] at hcf
  have Hcf := Lib.hid hcf
  have e2 := e1.trans hE2
  clear hcf hS hv1 hte y0 y1 y2
  go_wp2_with fail
  refine Hcf.out.mono ?_
  rintro e X3 ⟨rfl, hE3⟩
  go_wp2_with fail
  go_ret2
  exact ⟨rfl, e2.trans hE3⟩
end Go.Proofs.YtnlajhjoakijmaaGreatDoor
namespace Go.Proofs.YtnlajhjoakijmaaGreatDoor
open Go.RowKit Go.Sort
section
variable {w : World} {ops : Array Oper} {rest : List Oper} {o : Oper} {a : Act} {Q : Exit → Act → World → Prop}
theorem make_rowG (hw : Region.wanted o (yielded ops a.tmps) = true) (l c : Operand) (t : TypeId) (ht : Tryz.prog.underlying t = some (.slice 3)) (hop : o.op = Op.makeSlice t l c) {n : Nat} (hl : a.eval l = .int .i64 n) (hc : a.eval c = .int .i64 n) (hn : n ≤ 1000000)
    (h : ∀ w', RowV w.heap.size w' (slv w.heap.size n n) (List.replicate n 0) → w.grownBy w' none → wpList Tryz.prog ops Q rest (a.put o.dst (slv w.heap.size n n)) w') : wpList Tryz.prog ops Q (o :: rest) a w := by
  obtain ⟨i0, hi, hz0, hz1, hz2⟩ := info_parts Tryz.infoInt
  refine BigFrame.wpList_want hw fun K hK' => ?_
  obtain ⟨w', hrun, r1, r2⟩ := run_make_full (P := Tryz.prog) w w.heap.size t 3 i0 (.int .i64 0) 1 ht hi hz0 hz1 .i64 .i64 n (by rw [hz2]; omega) (by unfold maxLen; omega) (Nat.le_refl _)
  unfold Oper.wp
  simp [execOp, hop, hl, hc, hrun, Result.andThen]
  exact hK' _ _ (h w' (zero_row r1) r2)
end
theorem bgE_zero {n : Nat} (hn : n ≤ 64) : bgE n (List.replicate n 0) = 0 := by
  have h1 : chkRow (List.replicate n 0) = 0 := by
    have hg : (List.replicate n (0 : Int)).any grt = false := by
      cases h : (List.replicate n (0 : Int)).any grt
      · rfl
      · obtain ⟨z, hz, hg⟩ := List.any_eq_true.1 h
        have := (List.mem_replicate.1 hz).2
        subst this
        exact absurd hg (by decide)
    unfold chkRow
    rw [List.length_replicate, if_neg (by omega), hg]; rfl
  unfold bgE
  rw [if_pos h1, List.length_replicate, if_pos rfl]
theorem SmP.gt {x : Int} (h : SmP x) : 1 < x := by unfold SmP at h; omega
set_option maxRecDepth 100000 in
set_option maxHeartbeats 8000000 in
theorem lim_walk {w : World} {b : Int} {rv : Value} {Z : List (List Int)} {vals : Bool} {m8 : Int} (hb : 0 ≤ b ∧ b ≤ 255) (hR : RowsA w rv Z) (hm8 : 0 ≤ m8 ∧ m8 ≤ 255) (hL : Laid w) :
    Calls Tryz.prog 5 #[.agg #[.int .u8 b, rv, .bool vals], .int .u8 m8] w fun e w' => e = .returned (.bool true) ∧ Ext w w' := by
  have hkn := Lib.hid (fun W (hW : Ext w W) => known20_any (hL.ext hW))
  have hft := Lib.hid (fun W (hW : Ext w W) => fits18_any (b := b) (vals := vals) (hR.ext hW))
  have hmk := Lib.hid (fun W (hW : Ext w W) (h3 : Z.length ≤ 3) => make18_any (vals := vals) hb (hR.ext hW) h3 (hL.ext hW))
  have HL := Lib.hid hL
  obtain ⟨sa, gb, go, cap, rfl, k1, k2, k3, k4⟩ := id hR
  clear k1 k2 k3 k4
  obtain ⟨rz, hrz⟩ : ∃ rz, rz = Z.length := ⟨_, rfl⟩
  rw [← hrz] at hft hmk ⊢
  have hX := (Ext.refl w).alloc (.cells #[.int .u8 b, .slice sa rz cap, .bool vals] 24)
  have p0 : (w.alloc (.cells #[.int .u8 b, .slice sa rz cap, .bool vals] 24)).cell? ⟨w.heap.size, 0, none⟩ = some (.int .u8 b) := by go_simp
  have p1 : (w.alloc (.cells #[.int .u8 b, .slice sa rz cap, .bool vals] 24)).cell? ⟨w.heap.size, 1, none⟩ = some (.slice sa rz cap) := by go_simp
  have p2 : (w.alloc (.cells #[.int .u8 b, .slice sa rz cap, .bool vals] 24)).cell? ⟨w.heap.size, 2, none⟩ = some (.bool vals) := by go_simp
  clear hrz hb hR hL
  by_cases hz3 : rz ≤ 3
  · rw [decide_eq_true hz3] at hft
    by_cases hm : 100 < m8
    · clear hmk hz3
      go_enter Tryz.func5, Tryz.ntmps5
      go_wp2_with fail
      refine (hkn.out _ hX).mono ?_
      rintro e X ⟨rfl, hE1⟩
      have p0 := hE1.cell p0
      have p1 := hE1.cell p1
      have p2 := hE1.cell p2
      have e1 := hX.trans hE1
      go_wp2_with fail
      refine (hft.out _ e1).mono ?_
      rintro e X2 ⟨rfl, hE2⟩
      have e2 := e1.trans hE2
      go_wp2_with fail
      refine (hkn.out _ e2).mono ?_
      rintro e X3 ⟨rfl, hE3⟩
      go_wp2_with fail
      go_ret
      exact ⟨rfl, e2.trans hE3⟩
    · obtain ⟨m, rfl⟩ : ∃ m : Nat, m8 = (m : Int) := ⟨m8.toNat, by omega⟩
      have hm100 : m ≤ 100 := by omega
      have hw1 : IntKind.i64.wrap (m : Int) = m := IntWalk.i64_in _ (by omega)
      have hw2 : IntKind.i64.wrap (2 * (m : Int)) = 2 * m := IntWalk.i64_in _ (by omega)
      have hw3 : IntKind.i64.wrap (2 * (m : Int) + 1) = 2 * m + 1 := IntWalk.i64_in _ (by omega)
      replace hmk := Lib.hid (fun W hW => hmk.out W hW hz3)
      clear hm8 hz3
      go_enter Tryz.func5, Tryz.ntmps5
      go_wp2_with fail
      refine (hkn.out _ hX).mono ?_
      rintro e X ⟨rfl, hE1⟩
      have p0 := hE1.cell p0
      have p1 := hE1.cell p1
      have p2 := hE1.cell p2
      have e1 := hX.trans hE1
      clear hE1
      go_wp2_with fail
      refine (hft.out _ e1).mono ?_
      rintro e X2 ⟨rfl, hE2⟩
      have p0 := hE2.cell p0
      have p1 := hE2.cell p1
      have p2 := hE2.cell p2
      have e2 := e1.trans hE2
      clear hE2
      go_wp2_with fail
      refine (hmk.out _ e2).mono ?_
      rintro e X3 ⟨t, C, M, rfl, ht, hE3⟩
      have e3 := e2.trans hE3
      generalize prL b = P at *
      obtain ⟨sp, cp, sc, lc, cc, sm, lm, cm, rfl, hT⟩ := ht.open
      have hml : lm = M.length := by obtain ⟨_, _, _, _, _, e, _⟩ := hT.hM; injection e
      subst hml
      have hp0 := hT.ok.p0
      have hp4 := hT.ok.p4
      have hM4 : M.length ≤ 4 := by
        obtain ⟨psM, hIM⟩ := hT.ok.kM.1
        have := isH_len hIM; omega
      have HP1 := Lib.hid (show ∀ x ∈ P, 1 < x from fun x hx => (hT.ok.pr x hx).gt)
      have HT := Lib.hid hT
      have ea := (Ext.refl X3).alloc (.cells #[.slice sp P.length cp, .slice sc lc cc, .slice sm M.length cm] 34)
      have e4 := e3.alloc (.cells #[.slice sp P.length cp, .slice sc lc cc, .slice sm M.length cm] 34)
      have t0 : (X3.alloc (.cells #[.slice sp P.length cp, .slice sc lc cc, .slice sm M.length cm] 34)).cell? ⟨X3.heap.size, 0, none⟩ = some (.slice sp P.length cp) := by go_simp
      have t1 : (X3.alloc (.cells #[.slice sp P.length cp, .slice sc lc cc, .slice sm M.length cm] 34)).cell? ⟨X3.heap.size, 1, none⟩ = some (.slice sc lc cc) := by go_simp
      have t2 : (X3.alloc (.cells #[.slice sp P.length cp, .slice sc lc cc, .slice sm M.length cm] 34)).cell? ⟨X3.heap.size, 2, none⟩ = some (.slice sm M.length cm) := by go_simp
      have HT4 := Lib.hid (hT.ext ea)
      obtain ⟨Tt, hTt⟩ : ∃ T, T = (2 * m + 1) ^ P.length := ⟨_, rfl⟩
      have HTt := Lib.hid hTt
      have hpw : ∀ i, i ≤ 4 → (2 * m + 1) ^ i ≤ 201 ^ 4 := fun i hi => Nat.le_trans (Nat.pow_le_pow_left (show 2 * m + 1 ≤ 201 by omega) i) (Nat.pow_le_pow_right (by omega) hi)
      have e201 : (201 : Nat) ^ 4 = 1632240801 := by decide
      rw [e201] at hpw
      have Hpw := Lib.hid hpw
      have hTb : Tt ≤ 1632240801 := by rw [hTt]; exact hpw _ hp4
      clear hT ht hE3 hTt hpw e201 hmk hft p0 p1 p2 e1 e2
      go_wp2_with fail
      generalize X3.alloc (.cells #[.slice sp P.length cp, .slice sc lc cc, .slice sm M.length cm] 34) = X4 at *
      generalize X3.heap.size = bt at *
      go_loopw [7, 8] (fun cv iv wr => ∃ i : Nat, i ≤ P.length ∧ iv = .int .i64 i ∧ cv = .int .i64 (((2 * m + 1) ^ i : Nat) : Int) ∧ X4 = wr) (fun _ iv _ => P.length - (intOf iv).toNat)
      case atStart => exact ⟨0, by omega, by go_num, by rw [Nat.pow_zero]; rfl, by first | rfl | trivial⟩
      case round =>
        obtain ⟨i, hi, rfl, rfl, hwr⟩ := hrel
        subst hwr
        by_cases hlt : i < P.length
        · have hii : (i : Int) < (P.length : Int) := by omega
          have hst : (2 * m + 1) ^ (i + 1) = (2 * m + 1) ^ i * (2 * m + 1) := Nat.pow_succ _ _
          have hb1 := Hpw.out (i + 1) (by omega)
          rw [hst] at hb1
          obtain ⟨c, hc⟩ : ∃ c, c = (2 * m + 1) ^ i := ⟨_, rfl⟩
          rw [← hc] at hst hb1 ⊢
          have hci : (c : Int) * (2 * (m : Int) + 1) = ((c * (2 * m + 1) : Nat) : Int) := by push_cast; rfl
          have hw4 : IntKind.i64.wrap ((c : Int) * (2 * (m : Int) + 1)) = ((c * (2 * m + 1) : Nat) : Int) := by rw [hci]; exact IntWalk.i64_in _ (by omega)
          have Hst := Lib.hid hst
          clear hc hst hci
          generalize c * (2 * m + 1) = d at *
          go_wp2_with fail
          go_roundw
          case rel => exact ⟨i + 1, by omega, by go_num, by rw [Hst.out], by first | rfl | trivial⟩
          case measure => simp [intOf] <;> omega
        · obtain rfl : i = P.length := by omega
          rw [← HTt.out]
          clear hi hlt hw2 hw3
          have Hz0 := Lib.hid (bgE_zero (n := M.length) (by omega))
          have hbxE : bxE P.length M (List.replicate M.length 0) m = if 100000 < Tt then 4 else 0 := by
            unfold bxE
            rw [if_pos Hz0.out, if_neg (by omega), Int.toNat_natCast, ← HTt.out]
          have HbE := Lib.hid hbxE
          clear hbxE
          by_cases hTc : Tt ≤ 100000
          · have hTI : (Tt : Int) ≤ 100000 := by omega
            have hTI2 : ¬ (100000 : Int) < (Tt : Int) := by omega
            have HbE0 := Lib.hid (show bxE P.length M (List.replicate M.length 0) m = 0 by rw [HbE.out, if_neg (by omega)])
            by_cases hm3 : 3 < m
            · have hmI : (3 : Int) < (m : Int) := by omega
              by_cases hn1 : 1 < P.length
              · have hnI : (1 : Int) < (P.length : Int) := by omega
                go_wp2_with fail
                go_ret
                exact ⟨rfl, e4⟩
              · have hnI : ¬ (1 : Int) < (P.length : Int) := by omega
                clear HbE hTc
                obtain ⟨i0, hi0, hz0, hz1, hz2⟩ := info_parts Tryz.infoInt
                go_wp2_with (at_make; refine wpList_make_full _ rfl _ _ 30 rfl X4.heap.size 3 i0 (.int .i64 0) 1 Tryz.underlying30 hi0 hz0 hz1 .i64 .i64 _ _ M.length rfl rfl (by omega) (by omega) (by rw [hz2]; omega) (by unfold maxLen; omega) (Nat.le_refl _) ?_; intro Y1 hown1 hgrow1; have hF1 : Ext X4 Y1 := ext_grown hgrow1; have t0 := hF1.cell t0; have t1 := hF1.cell t1; have t2 := hF1.cell t2)
                have hzr : RowR Y1 (slv X4.heap.size M.length M.length) (List.replicate M.length 0) := (zero_row hown1).row
                have hbx := Lib.hid (fun W (hW : Ext Y1 W) => gBox_any (most := (m : Int)) ((HT4.out.ext hF1).ext hW) (hzr.ext hW) (((HL.out.ext e4).ext hF1).ext hW))
                have hle := Lib.hid (fun W (hW : Ext Y1 W) => gLeast_any (most := (m : Int)) ((HT4.out.ext hF1).ext hW) (hzr.ext hW) (((HL.out.ext e4).ext hF1).ext hW))
                have HT5 := Lib.hid (HT4.out.ext hF1)
                have e5 := e4.trans hF1
                clear hown1 hgrow1 hzr hF1 hi0 hz0 hz1 hz2
                go_wp2_with fail
                refine (hbx.out _ (Ext.refl _)).mono ?_
                rintro e Y2 ⟨hF2, (⟨q1, _⟩ | ⟨_, v, rfl, hv⟩)⟩
                · exact absurd HbE0.out q1
                · rw [Int.toNat_natCast, ← HTt.out] at hv
                  obtain ⟨L, hLe⟩ : ∃ L, L = bxL M (List.replicate M.length 0) P.length m Tt := ⟨_, rfl⟩
                  have hLl : L.length ≤ 100000 := by
                    have := bxL_len M (List.replicate M.length 0) P.length m Tt
                    rw [← hLe] at this; omega
                  have hodd : L.length % 2 = 1 := by rw [hLe, HTt.out]; exact box_odd M P.length m
                  have h0m : List.replicate P.length 0 ∈ L := by rw [hLe, HTt.out]; exact box_zero M P.length m
                  have HLm := Lib.hid (show ∀ y ∈ L, bgE P.length y = 0 ∧ (∀ z ∈ tmpL M y, z = 0) ∧ y.length = P.length from fun y hy => by
                    rw [hLe] at hy
                    obtain ⟨q1, q2, q3⟩ := bxL_mem hy
                    refine ⟨?_, fun z hz => by rw [q3] at hz; exact (List.mem_replicate.1 hz).2, q1⟩
                    have h1 : chkRow y = 0 := by
                      have hg : y.any grt = false := by
                        cases h : y.any grt
                        · rfl
                        · obtain ⟨z, hz, hg⟩ := List.any_eq_true.1 h
                          have := q2 z hz
                          unfold grt at hg
                          have := of_decide_eq_true hg
                          omega
                      unfold chkRow
                      rw [if_neg (by omega), hg]; rfl
                    unfold bgE
                    rw [if_pos h1, if_pos q1])
                  have Hbst := Lib.hid (bst_zero (P := P) (L := L) (n := P.length) HP1.out rfl (fun y hy => (HLm.out y hy).2.2) h0m)
                  have hLp : 0 < L.length := List.length_pos_of_mem h0m
                  have HLe := Lib.hid hLe
                  rw [← hLe] at hv
                  obtain ⟨sl, gl, ol, cl, vs, rfl, hlc, hvl, hSl, hrl⟩ := hv.mat
                  have HS := Lib.hid hSl
                  have HV := Lib.hid hvl
                  have HR := Lib.hid hrl
                  have t0 := hF2.cell t0
                  have t1 := hF2.cell t1
                  have t2 := hF2.cell t2
                  have HT6 := Lib.hid (HT5.out.ext hF2)
                  have Hodd := Lib.hid hodd
                  have Hl := Lib.hid hLp
                  clear hv hSl hvl hrl hodd h0m hLe hlc hLp
                  go_wp2_with fail
                  refine (hle.out _ hF2).mono ?_
                  rintro e Y3 ⟨hF3, (⟨q1, _⟩ | ⟨_, L', hL', hLd⟩)⟩
                  · exact absurd HbE0.out q1
                  · rw [Int.toNat_natCast, ← HTt.out, ← HLe.out] at hL'
                    subst hL'
                    rcases hLd with ⟨h0, _⟩ | ⟨_, s, n9, c9, rfl, hRy⟩
                    · exact absurd h0 (by have := Hl.out; omega)
                    · rw [Hbst.out] at hRy
                      have hn9 : n9 = P.length := by
                        obtain ⟨_, _, _, _, e, _, _⟩ := hRy
                        injection e with _ e _
                        rw [e]; simp
                      subst hn9
                      have HRy := Lib.hid hRy
                      have t0 := hF3.cell t0
                      have t1 := hF3.cell t1
                      have t2 := hF3.cell t2
                      have HT7 := Lib.hid (HT6.out.ext hF3)
                      have eF := (e5.trans hF2).trans hF3
                      clear hRy hbx hle
                      go_wp2_with fail
                      go_loopw [4, 15] (fun rv9 iv wr => ∃ i : Nat, i ≤ L'.length ∧ iv = .int .i64 i ∧ rv9 = .bool false ∧ Ext Y3 wr) (fun _ iv _ => L'.length - (intOf iv).toNat)
                      case atStart => exact ⟨0, by omega, by go_num, rfl, Ext.refl _⟩
                      case round =>
                        obtain ⟨i, hi, rfl, rfl, hE⟩ := hrel
                        generalize wr = U at *
                        have u0 := hE.cell t0
                        have u1 := hE.cell t1
                        have u2 := hE.cell t2
                        by_cases hlt : i < L'.length
                        · have hii : (i : Int) < (L'.length : Int) := by omega
                          obtain rfl := HS.out.addr (by rw [HV.out]; omega)
                          obtain ⟨sr, br, or, cr, hrow, hrc, hSr⟩ := MatR.row HS.out HV.out HR.out hlt
                          have hrU := hE.cell (hF3.cell hrow)
                          have hmi := HLm.out _ (List.getElem_mem hlt)
                          have HRi := Lib.hid (show RowR Y2 (.slice sr L'[i].length cr) L'[i] from ⟨_, _, _, _, rfl, hrc, hSr⟩)
                          have c1 := Lib.hid (fun W (hW : Ext U W) => tempersOut_ok ((HT7.out.ext hE).ext hW) (((HRi.out.ext hF3).ext hE).ext hW) hmi.1 hmi.2.1 ((HL.out.ext ((eF.trans hE).trans hW))))
                          generalize L'[i].length = nr at *
                          clear hmi
                          go_wp2_with fail
                          have dd : Ext U U.drew := (Ext.refl U).drew
                          refine wp_region_held_tail (S := fun W => Ext U W) 10 (by kernel_rfl) (by simp) ?_
                          intro inv
                          refine wpAnyLH_take (i := 0) (v := tmS P sp cp sc lc cc sm M.length cm) rfl (by kernel_rfl) (fun _ _ _ h => h) (.inl ⟨by rfl, fun W hW => by have q0 := hW.cell u0; have q1 := hW.cell u1; have q2 := hW.cell u2; go_simp⟩) dd inv ?_
                          intro inv
                          go_simp
                          refine wpAnyLH_take (i := 1) (v := .slice (some ⟨gl, ol, none⟩) L'.length cl) rfl (by kernel_rfl) (fun _ _ _ h => h) (.inl ⟨by rfl, fun W hW => by go_simp⟩) dd inv ?_
                          intro inv
                          go_simp
                          refine wpAnyLH_take (i := 2) (v := .int .i64 i) rfl (by kernel_rfl) (fun _ _ _ h => h) (.inl ⟨by rfl, fun W hW => by go_simp⟩) dd inv ?_
                          intro inv
                          go_simp
                          refine wpAnyLH_take (i := 3) (v := .pointer (some ⟨gl, ol + i, none⟩)) rfl (by kernel_rfl) (fun _ _ _ h => h) (.inl ⟨by rfl, fun W hW => by go_simp⟩) dd inv ?_
                          intro inv
                          go_simp
                          refine wpAnyLH_take (i := 4) (v := .slice sr nr cr) rfl (by kernel_rfl) (fun _ _ _ h => h) (.inl ⟨by rfl, fun W hW => by have q0 := hW.cell hrU; go_simp⟩) dd inv ?_
                          intro inv
                          go_simp
                          refine wpAnyLH_oneI (i := 5) rfl (by kernel_rfl) inv (fun inv K0 hK0 => ?_)
                          go_simp
                          refine (c1.out _ dd).mono ?_
                          rintro e W1 ⟨rfl, hG1⟩
                          have d1 := dd.trans hG1
                          refine hK0 _ _ d1 ?_
                          clear hK0
                          refine wpAnyLH_take (i := 6) (v := .tuple #[.bool true, .int .i64 0]) rfl (by kernel_rfl) (fun _ _ _ h => h) (.inl ⟨by rfl, fun W hW => by go_simp⟩) d1 inv ?_
                          intro inv
                          go_simp
                          refine wpAnyLH_take (i := 7) (v := .bool true) rfl (by kernel_rfl) (fun _ _ _ h => h) (.inl ⟨by rfl, fun W hW => by go_simp⟩) d1 inv ?_
                          intro inv
                          go_simp
                          refine wpAnyLH_take (i := 8) (v := .int .i64 0) rfl (by kernel_rfl) (fun _ _ _ h => h) (.inl ⟨by rfl, fun W hW => by go_simp⟩) d1 inv ?_
                          intro inv
                          go_simp
                          refine wpAnyLH_oneI (i := 9) rfl (by kernel_rfl) inv (fun inv K1 hK1 => ?_)
                          go_simp
                          refine hK1 _ _ d1 ?_
                          clear hK1
                          refine wpAnyLH_end (by kernel_rfl) ?_
                          have hE5 := hE.trans d1
                          clear c1 inv
                          go_wp2_with fail
                          go_roundw
                          case rel => exact ⟨i + 1, by omega, by go_num, rfl, hE5⟩
                          case measure => simp [intOf] <;> omega
                        · obtain rfl : i = L'.length := by omega
                          have hod : (L'.length : Int) % 2 = 1 := by have := Hodd.out; omega
                          have hod2 : (L'.length : Int).tmod 2 = 1 := by rw [Int.tmod_eq_emod_of_nonneg (by omega)]; exact hod
                          have hnz : ¬ (2 : Int) = 0 := by decide
                          have eG := eF.trans hE
                          go_wp2_with (at_make; refine make_rowG (by rfl) _ _ 30 Tryz.underlying30 rfl (n := P.length) rfl rfl (by omega) ?_; intro w9 hO9 hG9; have hE9 : Ext U w9 := ext_grown hG9; have HO9 := Lib.hid hO9.row; clear hO9 hG9)
                          refine (same_yes (((HRy.out.ext hE).ext hE9)) HO9.out (by simp; omega) rfl).mono ?_
                          rintro e w10 ⟨rfl, hE10⟩
                          have eH := (eG.trans hE9).trans hE10
                          go_wp2_with fail
                          go_ret
                          exact ⟨rfl, eH⟩
            · have hmI : ¬ (3 : Int) < (m : Int) := by omega
              clear HbE hTc
              obtain ⟨i0, hi0, hz0, hz1, hz2⟩ := info_parts Tryz.infoInt
              go_wp2_with (at_make; refine wpList_make_full _ rfl _ _ 30 rfl X4.heap.size 3 i0 (.int .i64 0) 1 Tryz.underlying30 hi0 hz0 hz1 .i64 .i64 _ _ M.length rfl rfl (by omega) (by omega) (by rw [hz2]; omega) (by unfold maxLen; omega) (Nat.le_refl _) ?_; intro Y1 hown1 hgrow1; have hF1 : Ext X4 Y1 := ext_grown hgrow1; have t0 := hF1.cell t0; have t1 := hF1.cell t1; have t2 := hF1.cell t2)
              have hzr : RowR Y1 (slv X4.heap.size M.length M.length) (List.replicate M.length 0) := (zero_row hown1).row
              have hbx := Lib.hid (fun W (hW : Ext Y1 W) => gBox_any (most := (m : Int)) ((HT4.out.ext hF1).ext hW) (hzr.ext hW) (((HL.out.ext e4).ext hF1).ext hW))
              have hle := Lib.hid (fun W (hW : Ext Y1 W) => gLeast_any (most := (m : Int)) ((HT4.out.ext hF1).ext hW) (hzr.ext hW) (((HL.out.ext e4).ext hF1).ext hW))
              have HT5 := Lib.hid (HT4.out.ext hF1)
              have e5 := e4.trans hF1
              clear hown1 hgrow1 hzr hF1 hi0 hz0 hz1 hz2
              go_wp2_with fail
              refine (hbx.out _ (Ext.refl _)).mono ?_
              rintro e Y2 ⟨hF2, (⟨q1, _⟩ | ⟨_, v, rfl, hv⟩)⟩
              · exact absurd HbE0.out q1
              · rw [Int.toNat_natCast, ← HTt.out] at hv
                obtain ⟨L, hLe⟩ : ∃ L, L = bxL M (List.replicate M.length 0) P.length m Tt := ⟨_, rfl⟩
                have hLl : L.length ≤ 100000 := by
                  have := bxL_len M (List.replicate M.length 0) P.length m Tt
                  rw [← hLe] at this; omega
                have hodd : L.length % 2 = 1 := by rw [hLe, HTt.out]; exact box_odd M P.length m
                have h0m : List.replicate P.length 0 ∈ L := by rw [hLe, HTt.out]; exact box_zero M P.length m
                have HLm := Lib.hid (show ∀ y ∈ L, bgE P.length y = 0 ∧ (∀ z ∈ tmpL M y, z = 0) ∧ y.length = P.length from fun y hy => by
                  rw [hLe] at hy
                  obtain ⟨q1, q2, q3⟩ := bxL_mem hy
                  refine ⟨?_, fun z hz => by rw [q3] at hz; exact (List.mem_replicate.1 hz).2, q1⟩
                  have h1 : chkRow y = 0 := by
                    have hg : y.any grt = false := by
                      cases h : y.any grt
                      · rfl
                      · obtain ⟨z, hz, hg⟩ := List.any_eq_true.1 h
                        have := q2 z hz
                        unfold grt at hg
                        have := of_decide_eq_true hg
                        omega
                    unfold chkRow
                    rw [if_neg (by omega), hg]; rfl
                  unfold bgE
                  rw [if_pos h1, if_pos q1])
                have Hbst := Lib.hid (bst_zero (P := P) (L := L) (n := P.length) HP1.out rfl (fun y hy => (HLm.out y hy).2.2) h0m)
                have hLp : 0 < L.length := List.length_pos_of_mem h0m
                have HLe := Lib.hid hLe
                rw [← hLe] at hv
                obtain ⟨sl, gl, ol, cl, vs, rfl, hlc, hvl, hSl, hrl⟩ := hv.mat
                have HS := Lib.hid hSl
                have HV := Lib.hid hvl
                have HR := Lib.hid hrl
                have t0 := hF2.cell t0
                have t1 := hF2.cell t1
                have t2 := hF2.cell t2
                have HT6 := Lib.hid (HT5.out.ext hF2)
                have Hodd := Lib.hid hodd
                have Hl := Lib.hid hLp
                clear hv hSl hvl hrl hodd h0m hLe hlc hLp
                go_wp2_with fail
                refine (hle.out _ hF2).mono ?_
                rintro e Y3 ⟨hF3, (⟨q1, _⟩ | ⟨_, L', hL', hLd⟩)⟩
                · exact absurd HbE0.out q1
                · rw [Int.toNat_natCast, ← HTt.out, ← HLe.out] at hL'
                  subst hL'
                  rcases hLd with ⟨h0, _⟩ | ⟨_, s, n9, c9, rfl, hRy⟩
                  · exact absurd h0 (by have := Hl.out; omega)
                  · rw [Hbst.out] at hRy
                    have hn9 : n9 = P.length := by
                      obtain ⟨_, _, _, _, e, _, _⟩ := hRy
                      injection e with _ e _
                      rw [e]; simp
                    subst hn9
                    have HRy := Lib.hid hRy
                    have t0 := hF3.cell t0
                    have t1 := hF3.cell t1
                    have t2 := hF3.cell t2
                    have HT7 := Lib.hid (HT6.out.ext hF3)
                    have eF := (e5.trans hF2).trans hF3
                    clear hRy hbx hle
                    go_wp2_with fail
                    go_loopw [4, 15] (fun rv9 iv wr => ∃ i : Nat, i ≤ L'.length ∧ iv = .int .i64 i ∧ rv9 = .bool false ∧ Ext Y3 wr) (fun _ iv _ => L'.length - (intOf iv).toNat)
                    case atStart => exact ⟨0, by omega, by go_num, rfl, Ext.refl _⟩
                    case round =>
                      obtain ⟨i, hi, rfl, rfl, hE⟩ := hrel
                      generalize wr = U at *
                      have u0 := hE.cell t0
                      have u1 := hE.cell t1
                      have u2 := hE.cell t2
                      by_cases hlt : i < L'.length
                      · have hii : (i : Int) < (L'.length : Int) := by omega
                        obtain rfl := HS.out.addr (by rw [HV.out]; omega)
                        obtain ⟨sr, br, or, cr, hrow, hrc, hSr⟩ := MatR.row HS.out HV.out HR.out hlt
                        have hrU := hE.cell (hF3.cell hrow)
                        have hmi := HLm.out _ (List.getElem_mem hlt)
                        have HRi := Lib.hid (show RowR Y2 (.slice sr L'[i].length cr) L'[i] from ⟨_, _, _, _, rfl, hrc, hSr⟩)
                        have c1 := Lib.hid (fun W (hW : Ext U W) => tempersOut_ok ((HT7.out.ext hE).ext hW) (((HRi.out.ext hF3).ext hE).ext hW) hmi.1 hmi.2.1 ((HL.out.ext ((eF.trans hE).trans hW))))
                        generalize L'[i].length = nr at *
                        clear hmi
                        go_wp2_with fail
                        have dd : Ext U U.drew := (Ext.refl U).drew
                        refine wp_region_held_tail (S := fun W => Ext U W) 10 (by kernel_rfl) (by simp) ?_
                        intro inv
                        refine wpAnyLH_take (i := 0) (v := tmS P sp cp sc lc cc sm M.length cm) rfl (by kernel_rfl) (fun _ _ _ h => h) (.inl ⟨by rfl, fun W hW => by have q0 := hW.cell u0; have q1 := hW.cell u1; have q2 := hW.cell u2; go_simp⟩) dd inv ?_
                        intro inv
                        go_simp
                        refine wpAnyLH_take (i := 1) (v := .slice (some ⟨gl, ol, none⟩) L'.length cl) rfl (by kernel_rfl) (fun _ _ _ h => h) (.inl ⟨by rfl, fun W hW => by go_simp⟩) dd inv ?_
                        intro inv
                        go_simp
                        refine wpAnyLH_take (i := 2) (v := .int .i64 i) rfl (by kernel_rfl) (fun _ _ _ h => h) (.inl ⟨by rfl, fun W hW => by go_simp⟩) dd inv ?_
                        intro inv
                        go_simp
                        refine wpAnyLH_take (i := 3) (v := .pointer (some ⟨gl, ol + i, none⟩)) rfl (by kernel_rfl) (fun _ _ _ h => h) (.inl ⟨by rfl, fun W hW => by go_simp⟩) dd inv ?_
                        intro inv
                        go_simp
                        refine wpAnyLH_take (i := 4) (v := .slice sr nr cr) rfl (by kernel_rfl) (fun _ _ _ h => h) (.inl ⟨by rfl, fun W hW => by have q0 := hW.cell hrU; go_simp⟩) dd inv ?_
                        intro inv
                        go_simp
                        refine wpAnyLH_oneI (i := 5) rfl (by kernel_rfl) inv (fun inv K0 hK0 => ?_)
                        go_simp
                        refine (c1.out _ dd).mono ?_
                        rintro e W1 ⟨rfl, hG1⟩
                        have d1 := dd.trans hG1
                        refine hK0 _ _ d1 ?_
                        clear hK0
                        refine wpAnyLH_take (i := 6) (v := .tuple #[.bool true, .int .i64 0]) rfl (by kernel_rfl) (fun _ _ _ h => h) (.inl ⟨by rfl, fun W hW => by go_simp⟩) d1 inv ?_
                        intro inv
                        go_simp
                        refine wpAnyLH_take (i := 7) (v := .bool true) rfl (by kernel_rfl) (fun _ _ _ h => h) (.inl ⟨by rfl, fun W hW => by go_simp⟩) d1 inv ?_
                        intro inv
                        go_simp
                        refine wpAnyLH_take (i := 8) (v := .int .i64 0) rfl (by kernel_rfl) (fun _ _ _ h => h) (.inl ⟨by rfl, fun W hW => by go_simp⟩) d1 inv ?_
                        intro inv
                        go_simp
                        refine wpAnyLH_oneI (i := 9) rfl (by kernel_rfl) inv (fun inv K1 hK1 => ?_)
                        go_simp
                        refine hK1 _ _ d1 ?_
                        clear hK1
                        refine wpAnyLH_end (by kernel_rfl) ?_
                        have hE5 := hE.trans d1
                        clear c1 inv
                        go_wp2_with fail
                        go_roundw
                        case rel => exact ⟨i + 1, by omega, by go_num, rfl, hE5⟩
                        case measure => simp [intOf] <;> omega
                      · obtain rfl : i = L'.length := by omega
                        have hod : (L'.length : Int) % 2 = 1 := by have := Hodd.out; omega
                        have hod2 : (L'.length : Int).tmod 2 = 1 := by rw [Int.tmod_eq_emod_of_nonneg (by omega)]; exact hod
                        have hnz : ¬ (2 : Int) = 0 := by decide
                        have eG := eF.trans hE
                        go_wp2_with (at_make; refine make_rowG (by rfl) _ _ 30 Tryz.underlying30 rfl (n := P.length) rfl rfl (by omega) ?_; intro w9 hO9 hG9; have hE9 : Ext U w9 := ext_grown hG9; have HO9 := Lib.hid hO9.row; clear hO9 hG9)
                        refine (same_yes (((HRy.out.ext hE).ext hE9)) HO9.out (by simp; omega) rfl).mono ?_
                        rintro e w10 ⟨rfl, hE10⟩
                        have eH := (eG.trans hE9).trans hE10
                        go_wp2_with fail
                        go_ret
                        exact ⟨rfl, eH⟩
          · have hTI : ¬ (Tt : Int) ≤ 100000 := by omega
            have hTI2 : (100000 : Int) < (Tt : Int) := by omega
            have HbE4 := Lib.hid (show bxE P.length M (List.replicate M.length 0) m = 4 by rw [HbE.out, if_pos (by omega)])
            clear HbE hTc
            obtain ⟨i0, hi0, hz0, hz1, hz2⟩ := info_parts Tryz.infoInt
            go_wp2_with (at_make; refine wpList_make_full _ rfl _ _ 30 rfl X4.heap.size 3 i0 (.int .i64 0) 1 Tryz.underlying30 hi0 hz0 hz1 .i64 .i64 _ _ M.length rfl rfl (by omega) (by omega) (by rw [hz2]; omega) (by unfold maxLen; omega) (Nat.le_refl _) ?_; intro Y1 hown1 hgrow1; have hF1 : Ext X4 Y1 := ext_grown hgrow1; have t0 := hF1.cell t0; have t1 := hF1.cell t1; have t2 := hF1.cell t2)
            have hzr : RowR Y1 (slv X4.heap.size M.length M.length) (List.replicate M.length 0) := (zero_row hown1).row
            have hbx := Lib.hid (fun W (hW : Ext Y1 W) => gBox_any (most := (m : Int)) ((HT4.out.ext hF1).ext hW) (hzr.ext hW) (((HL.out.ext e4).ext hF1).ext hW))
            have hle := Lib.hid (fun W (hW : Ext Y1 W) => gLeast_any (most := (m : Int)) ((HT4.out.ext hF1).ext hW) (hzr.ext hW) (((HL.out.ext e4).ext hF1).ext hW))
            have HT5 := Lib.hid (HT4.out.ext hF1)
            have e5 := e4.trans hF1
            clear hown1 hgrow1 hzr hF1 hi0 hz0 hz1 hz2
            go_wp2_with fail
            refine (hbx.out _ (Ext.refl _)).mono ?_
            rintro e Y2 ⟨hF2, (⟨_, rfl⟩ | ⟨q1, _⟩)⟩
            · rw [HbE4.out]
              have t0 := hF2.cell t0
              have t1 := hF2.cell t1
              have t2 := hF2.cell t2
              go_wp2_with fail
              refine (hle.out _ hF2).mono ?_
              rintro e Y3 ⟨hF3, (⟨_, rfl⟩ | ⟨q1, _⟩)⟩
              · rw [HbE4.out]
                have eF := (e5.trans hF2).trans hF3
                go_wp2_with fail
                go_ret
                exact ⟨rfl, eF⟩
              · exact absurd (HbE4.out.symm.trans q1) (by decide)
            · exact absurd (HbE4.out.symm.trans q1) (by decide)
  · rw [decide_eq_false hz3] at hft
    clear hmk hz3
    go_enter Tryz.func5, Tryz.ntmps5
    go_wp2_with fail
    refine (hkn.out _ hX).mono ?_
    rintro e X ⟨rfl, hE1⟩
    have p0 := hE1.cell p0
    have p1 := hE1.cell p1
    have p2 := hE1.cell p2
    have e1 := hX.trans hE1
    go_wp2_with fail
    refine (hft.out _ e1).mono ?_
    rintro e X2 ⟨rfl, hE2⟩
    have e2 := e1.trans hE2
    go_wp2_with fail
    refine (hkn.out _ e2).mono ?_
    rintro e X3 ⟨rfl, hE3⟩
    go_wp2_with fail
    go_ret
    exact ⟨rfl, e2.trans hE3⟩
end Go.Proofs.YtnlajhjoakijmaaGreatDoor
namespace Go.Proofs.YtnlajhjoakijmaaGreatDoor
open Go.ChangeShapes Go.WideShapes Go.ChangeAt Go.WideMaps Go.WideElems Go.RowKit Go.Deep
theorem fr_own : ownKnob Tryz.prog.godebug = none := by kernel_rfl
theorem fr_laidOut : laidOutB Tryz.prog = true := by kernel_rfl
theorem fr_pow : Tryz.prog.globalNamed "internal/strconv.uint64pow10" = some 2 := by kernel_rfl
theorem fr_powT : (Tryz.prog.globals[2]?).map (·.type) = some 267 := by kernel_rfl
theorem fr_rng : Tryz.prog.globalNamed "strconv.ErrRange" = some 1 := by kernel_rfl
theorem fr_rngT : (Tryz.prog.globals[1]?).map (·.type) = some 129 := by kernel_rfl
theorem fr_c20 : Tryz.prog.cellsOf 267 = 20 := by kernel_rfl
theorem fr_cu : Tryz.prog.cellsOf 135 = 1 := by kernel_rfl
theorem fr_cE : Tryz.prog.cellsOf 264 = 1 := by kernel_rfl
theorem fr_cS : Tryz.prog.cellsOf 9 = 1 := by kernel_rfl
theorem fr_star : "*" ++ "errors.errorString" = "*errors.errorString" := by decide
theorem fr_ptr (u : TypeId) (h : Tryz.prog.typeName? 3 u = some "*errors.errorString") : u = 262 :=
  typeName_ptr_named (nm := "errors.errorString") (by rw [fr_star]; kernel_rfl) (by kernel_rfl) (by decide) u (by rw [fr_star]; exact h)
abbrev fr_list : List (String × DataW Unit) := [("math/bits.deBruijn32tab", Rows.laid_math_bits_deBruijn32tab), ("math/bits.deBruijn64tab", Rows.laid_math_bits_deBruijn64tab), ("internal/strconv.uint64pow10", Rows.laid_internal_strconv_uint64pow10), ("strconv.ErrRange", Rows.laid_strconv_ErrRange), ("strconv.ErrSyntax", Rows.laid_strconv_ErrSyntax)]
theorem fr_tab : (Rows.laid_internal_strconv_uint64pow10 : DataW Unit) = Lib.tabData .u64 Lib.pow10Tab := by kernel_rfl
theorem laid_of {W : World} (h : laidMetH Tryz.prog fr_list W) : Laid W := by
  rw [MakeChecks.laidMetH_plain _ _ _ (by kernel_rfl)] at h
  have h3 := h.tail.tail
  rw [fr_tab] at h3
  refine ⟨Lib.tabIs_of_head fr_pow fr_powT Tryz.underlying267 Tryz.underlying135 fr_cu fr_c20 h3, ?_⟩
  obtain ⟨a, s, hv, _⟩ := laid_sentinel h3.tail fr_rng fr_rngT Tryz.underlying129 fr_ptr Tryz.underlying262 Tryz.underlying264 rfl rfl Tryz.underlying9 fr_cE fr_cS
  exact ⟨_, _, hv⟩
theorem door_met (os : Os) (args : Array Value) : laidMetH Tryz.prog fr_list ((World.doorLaid Tryz.prog 400 os).forCall (fun _ _ => 0) ⟨#[], args, []⟩).memory :=
  laidMetH_of_parts3 (fuel := 8) (laidMet_of_run' 8 (by kernel_rfl) (by kernel_rfl)) (by kernel_rfl) (by kernel_rfl)
end Go.Proofs.YtnlajhjoakijmaaGreatDoor
