/- Part 1, beside the shared parts, of the proof of the claim: contracts and plain laws; no condition. -/
import Derived.Test.YtnlajhjoakijmaaGreatDoorV01
import Derived.Test.YtnlajhjoakijmaaGreatDoorV02
import Derived.Test.YtnlajhjoakijmaaGreatDoorV03
import Derived.Test.YtnlajhjoakijmaaGreatDoorV04
import Derived.Test.YtnlajhjoakijmaaGreatDoorV05
import Derived.Test.YtnlajhjoakijmaaGreatDoorV06
import Derived.Test.YtnlajhjoakijmaaGreatDoorV07
import Derived.Test.YtnlajhjoakijmaaGreatDoorV08
import Derived.Test.YtnlajhjoakijmaaGreatDoorV09
import Derived.Test.YtnlajhjoakijmaaGreatDoorV10
import Derived.Test.YtnlajhjoakijmaaGreatDoorV11
import Derived.Test.YtnlajhjoakijmaaGreatDoorV12
import Derived.Test.YtnlajhjoakijmaaGreatDoorV13
import Derived.Test.YtnlajhjoakijmaaGreatDoorV14
import Derived.Test.YtnlajhjoakijmaaGreatDoorV15
import Derived.Test.YtnlajhjoakijmaaGreatDoorV16
import Derived.Test.YtnlajhjoakijmaaGreatDoorV17
import Derived.Test.YtnlajhjoakijmaaGreatDoorV18
import Derived.Test.YtnlajhjoakijmaaGreatDoorV19
import Derived.Test.YtnlajhjoakijmaaGreatDoorV20
import Derived.Test.YtnlajhjoakijmaaGreatDoorV21
import Derived.Test.YtnlajhjoakijmaaGreatDoorV22
import Derived.Test.YtnlajhjoakijmaaGreatDoorV23
import Derived.Test.YtnlajhjoakijmaaGreatDoorV24
import Derived.Test.YtnlajhjoakijmaaGreatDoorV25
import Derived.Test.YtnlajhjoakijmaaGreatDoorV26
import Derived.Test.YtnlajhjoakijmaaGreatDoorV27
import Derived.Test.YtnlajhjoakijmaaGreatDoorV28
import Derived.Test.YtnlajhjoakijmaaGreatDoorV29
import Derived.Test.YtnlajhjoakijmaaGreatDoorV30
import Derived.Test.YtnlajhjoakijmaaGreatDoorV31
import Derived.Test.YtnlajhjoakijmaaGreatDoorV32
namespace Go.Proofs.YtnlajhjoakijmaaGreatDoor
open Go.RowKit Go.Sort
def SmlP (x : List Int) (e : Ending) : Prop := ∃ b : Bool, e = .returned (.bool b) ∧ (b = true → x.length ≤ 8 ∧ (chkRow x = 0 → ∀ z ∈ x, -1000 ≤ z ∧ z ≤ 1000))
set_option maxRecDepth 100000 in
set_option maxHeartbeats 4000000 in
theorem small20_any {w : World} {sx : Option Addr} {n cx : Nat} {x : List Int} (hx : RowR w (.slice sx n cx) x) (hn : x.length ≤ 9223372036854775807) :
    Calls Tryz.prog 14 #[.slice sx n cx] w fun e w' => SmlP x e ∧ Ext w w' := by
  have hrc := Lib.hid (fun W (hW : Ext w W) => rowCheck_any (hx.ext hW))
  obtain ⟨sa, gb, go, cap, e0, hc, hS⟩ := hx
  injection e0 with e1 e2 e3
  subst e1 e2 e3
  obtain ⟨z, hz⟩ : ∃ z, z = chkRow x := ⟨_, rfl⟩
  rw [← hz] at hrc
  have HS := Lib.hid hS
  have Hz := Lib.hid hz
  clear hz hS
  go_enter Tryz.func14, Tryz.ntmps14
  go_wp2_with fail
  go_loopw [2, 3] (fun rv iv wr => ∃ i : Nat, i ≤ x.length ∧ iv = .int .i64 i ∧ rv = .bool false ∧ Hid (z = 0 → ∀ j (h : j < x.length), j < i → -1000 ≤ x[j] ∧ x[j] ≤ 1000) ∧ Ext w wr) (fun _ iv _ => x.length - (intOf iv).toNat)
  case atStart => exact ⟨0, by omega, by go_num, rfl, Lib.hid (fun _ j _ h => by omega), Ext.refl _⟩
  case round =>
    obtain ⟨i, hi, rfl, rfl, HK, hE⟩ := hrel
    generalize wr = Y at *
    by_cases hlt : i < x.length
    · have hii : (i : Int) < (x.length : Int) := by omega
      obtain rfl := HS.out.addr (by simp; omega)
      have hcz := hE.cell (HS.out.cell i _ (is_get hlt))
      have hw1 : IntKind.i64.wrap ((i : Int) + 1) = ((i + 1 : Nat) : Int) := by rw [IntWalk.i64_in _ (by omega)]; push_cast; rfl
      obtain ⟨y, hy⟩ : ∃ y, y = x[i] := ⟨_, rfl⟩
      rw [← hy] at hcz
      have Hy := Lib.hid hy
      clear hy
      have hno : ¬ z = 0 → Hid (z = 0 → ∀ j (h : j < x.length), j < i + 1 → -1000 ≤ x[j] ∧ x[j] ≤ 1000) := fun h => Lib.hid (fun h0 => absurd h0 h)
      have hyes : (-1000 ≤ y ∧ y ≤ 1000) → Hid (z = 0 → ∀ j (h : j < x.length), j < i + 1 → -1000 ≤ x[j] ∧ x[j] ≤ 1000) := fun h => Lib.hid (fun h0 j hj hji => by
        by_cases e : j = i
        · subst e; rw [← Hy.out]; exact h
        · exact HK.out h0 j hj (by omega))
      by_cases hb1 : 1000 < y
      · clear hyes
        by_cases hz0 : z = 0
        · subst hz0
          clear hno
          go_wp2_with fail
          refine (hrc.out _ hE).mono ?_
          rintro e W ⟨rfl, hE2⟩
          go_wp2_with fail
          go_ret
          exact ⟨⟨false, rfl, fun h => by cases h⟩, hE.trans hE2⟩
        · have h2 : (z == 0) = false := beq_eq_false_iff_ne.2 hz0
          have Hk := hno hz0
          clear hno
          go_wp2_with fail
          refine (hrc.out _ hE).mono ?_
          rintro e W ⟨rfl, hE2⟩
          go_wp2_with fail
          go_roundw
          case rel => exact ⟨i + 1, by omega, by go_num, rfl, Hk, hE.trans hE2⟩
          case measure => simp [intOf] <;> omega
      · by_cases hb2 : y < -1000
        · clear hyes
          by_cases hz0 : z = 0
          · subst hz0
            clear hno
            go_wp2_with fail
            refine (hrc.out _ hE).mono ?_
            rintro e W ⟨rfl, hE2⟩
            go_wp2_with fail
            go_ret
            exact ⟨⟨false, rfl, fun h => by cases h⟩, hE.trans hE2⟩
          · have h2 : (z == 0) = false := beq_eq_false_iff_ne.2 hz0
            have Hk := hno hz0
            clear hno
            go_wp2_with fail
            refine (hrc.out _ hE).mono ?_
            rintro e W ⟨rfl, hE2⟩
            go_wp2_with fail
            go_roundw
            case rel => exact ⟨i + 1, by omega, by go_num, rfl, Hk, hE.trans hE2⟩
            case measure => simp [intOf] <;> omega
        · have Hk := hyes ⟨by omega, by omega⟩
          clear hno hyes
          go_wp2_with fail
          go_roundw
          case rel => exact ⟨i + 1, by omega, by go_num, rfl, Hk, hE⟩
          case measure => simp [intOf] <;> omega
    · obtain rfl : i = x.length := by omega
      have hend : ∀ b : Bool, (b = true → x.length ≤ 8) → SmlP x (.returned (.bool b)) := fun b hb => ⟨b, rfl, fun h => ⟨hb h, fun h0 v hv => by
        obtain ⟨j, hj, rfl⟩ := List.getElem_of_mem hv
        exact HK.out (Hz.out.trans h0) j hj hj⟩⟩
      have Hend := Lib.hid hend
      clear hend
      by_cases h8 : x.length ≤ 8
      · have h8I : (x.length : Int) ≤ 8 := by omega
        have Hr := Lib.hid (Hend.out true (fun _ => h8))
        clear HK h8
        go_wp2_with fail
        go_ret
        exact ⟨Hr.out, hE⟩
      · have h8I : ¬ (x.length : Int) ≤ 8 := by omega
        have Hr := Lib.hid (Hend.out false (fun h => by cases h))
        clear HK h8
        go_wp2_with fail
        go_ret
        exact ⟨Hr.out, hE⟩
set_option maxRecDepth 100000 in
set_option maxHeartbeats 4000000 in
theorem interval20_any {w : World} {P : List Int} {C M : Mx} {sp : Option Addr} {cp : Nat} {sc : Option Addr} {lc cc : Nat} {sm : Option Addr} {lm cm : Nat} {sx : Option Addr} {n cx : Nat} {x : List Int} (h : TmV w P C M M sp cp sc lc cc sm lm cm) (hx : RowR w (.slice sx n cx) x) :
    Calls Tryz.prog 20 #[tmS P sp cp sc lc cc sm lm cm, .slice sx n cx] w fun e w' => e = .returned (.int .i64 (bgE P.length x)) ∧ Ext w w' := by
  have hX := (Ext.refl w).alloc (.cells #[.slice sp P.length cp, .slice sc lc cc, .slice sm lm cm] 34)
  have x0 : (w.alloc (.cells #[.slice sp P.length cp, .slice sc lc cc, .slice sm lm cm] 34)).cell? ⟨w.heap.size, 0, none⟩ = some (.slice sp P.length cp) := by go_simp
  have x1 : (w.alloc (.cells #[.slice sp P.length cp, .slice sc lc cc, .slice sm lm cm] 34)).cell? ⟨w.heap.size, 1, none⟩ = some (.slice sc lc cc) := by go_simp
  have x2 : (w.alloc (.cells #[.slice sp P.length cp, .slice sc lc cc, .slice sm lm cm] 34)).cell? ⟨w.heap.size, 2, none⟩ = some (.slice sm lm cm) := by go_simp
  have hrc := Lib.hid (fun W (hW : Ext w W) => rowCheck_any (hx.ext hW))
  have hn : n = x.length := by obtain ⟨_, _, _, _, e, _, _⟩ := hx; injection e
  obtain ⟨z, hz⟩ : ∃ z, z = chkRow x := ⟨_, rfl⟩
  have hbg : bgE P.length x = if z = 0 then (if n = P.length then 0 else 5) else z := by rw [hz, hn]; rfl
  rw [hbg]
  rw [← hz] at hrc
  clear hz hbg hx hn h
  by_cases hz : z = 0
  · subst hz
    rw [if_pos rfl]
    by_cases hn : n = P.length
    · subst hn
      rw [if_pos rfl]
      go_enter Tryz.func20, Tryz.ntmps20
      go_wp2_with fail
      refine (hrc.out _ hX).mono ?_
      rintro e W ⟨rfl, hE2⟩
      have x0 := hE2.cell x0
      have x2 := hE2.cell x2
      go_wp2_with fail
      go_ret
      exact ⟨rfl, hX.trans hE2⟩
    · have h1 : ¬ ((n : Int) = (P.length : Int)) := by omega
      have h2 : ((n : Int) == (P.length : Int)) = false := beq_eq_false_iff_ne.2 h1
      have h3 : ((n : Int) != (P.length : Int)) = true := by simp [bne, h2]
      rw [if_neg hn]
      clear hn
      go_enter Tryz.func20, Tryz.ntmps20
      go_wp2_with fail
      refine (hrc.out _ hX).mono ?_
      rintro e W ⟨rfl, hE2⟩
      have x0 := hE2.cell x0
      have x2 := hE2.cell x2
      go_wp2_with fail
      go_ret
      exact ⟨rfl, hX.trans hE2⟩
  · have h2 : (z == 0) = false := beq_eq_false_iff_ne.2 hz
    have h3 : (z != 0) = true := by simp [bne, h2]
    rw [if_neg hz]
    go_enter Tryz.func20, Tryz.ntmps20
    go_wp2_with fail
    refine (hrc.out _ hX).mono ?_
    rintro e W ⟨rfl, hE2⟩
    go_wp2_with fail
    go_ret
    exact ⟨rfl, hX.trans hE2⟩
set_option maxRecDepth 100000 in
set_option maxHeartbeats 4000000 in
theorem two20_any {w : World} {P : List Int} {C M : Mx} {sp : Option Addr} {cp : Nat} {sc : Option Addr} {lc cc : Nat} {sm : Option Addr} {lm cm : Nat} (h : TmV w P C M M sp cp sc lc cc sm lm cm) :
    Calls Tryz.prog 18 #[tmS P sp cp sc lc cc sm lm cm] w fun e w' => e = .returned (.int .i64 (twE M)) ∧ Ext w w' := by
  obtain ⟨psM, hIM⟩ := h.ok.kM.1
  have hp0 := h.ok.p0
  obtain ⟨sm', gm, om, cm', vs, em, hmc, hvl, hSm, hrm⟩ := h.hM
  injection em with q4 q5 q6
  subst q4 q6
  have HrM := Lib.hid hIM.rect
  have hX := (Ext.refl w).alloc (.cells #[.slice sp P.length cp, .slice sc lc cc, .slice sm lm cm] 34)
  have x0 : (w.alloc (.cells #[.slice sp P.length cp, .slice sc lc cc, .slice sm lm cm] 34)).cell? ⟨w.heap.size, 0, none⟩ = some (.slice sp P.length cp) := by go_simp
  have x1 : (w.alloc (.cells #[.slice sp P.length cp, .slice sc lc cc, .slice sm lm cm] 34)).cell? ⟨w.heap.size, 1, none⟩ = some (.slice sc lc cc) := by go_simp
  have x2 : (w.alloc (.cells #[.slice sp P.length cp, .slice sc lc cc, .slice sm lm cm] 34)).cell? ⟨w.heap.size, 2, none⟩ = some (.slice sm lm cm) := by go_simp
  by_cases hl : lm = 2
  · subst hl
    have hM2 : M.length = 2 := q5.symm
    obtain ⟨sr, br, or, cr, hrow, hrc, hSr⟩ := MatR.row hSm hvl hrm (show 0 < M.length by omega)
    obtain ⟨sr1, br1, or1, cr1, hrow1, hrc1, hSr1⟩ := MatR.row hSm hvl hrm (show 1 < M.length by omega)
    obtain rfl := hSm.addr (by omega)
    have hr0 : M[0].length = P.length := HrM.out _ (List.getElem_mem _)
    have hr1 : M[1].length = P.length := HrM.out _ (List.getElem_mem _)
    obtain ⟨z, hz⟩ : ∃ z, z = eM M 0 0 := ⟨_, rfl⟩
    have hz1 : eM M 1 0 = 0 := hIM.left 1 (by omega) 0 (by have := hIM.inc 0 1 (by omega) (by omega); omega)
    have htw : twE M = if z = 0 then 26 else 0 := by unfold twE; rw [if_pos hM2, hz]
    rw [htw]
    have hcz : w.cell? ⟨br, or, none⟩ = some (.int .i64 z) := by
      have := hSr.cell 0 (.int .i64 z) (by
        rw [hz]; unfold eM
        rw [getD_get (show 0 < M.length by omega), getD_get (show 0 < M[0].length by omega)]
        exact is_get (by omega))
      simpa using this
    have hcz1 : w.cell? ⟨br1, or1, none⟩ = some (.int .i64 0) := by
      have := hSr1.cell 0 (.int .i64 0) (by
        rw [← hz1]; unfold eM
        rw [getD_get (show 1 < M.length by omega), getD_get (show 0 < M[1].length by omega)]
        exact is_get (by omega))
      simpa using this
    obtain rfl := hSr.addr (by simp; omega)
    obtain rfl := hSr1.addr (by simp; omega)
    rw [hr0] at hrow hrc
    rw [hr1] at hrow1 hrc1
    rw [Nat.add_zero] at hrow
    have hrowX := hX.cell hrow
    have hczX := hX.cell hcz
    have hrow1X := hX.cell hrow1
    have hcz1X := hX.cell hcz1
    have hpI : (0 : Int) < (P.length : Int) := by omega
    clear htw hz hM2 hrm hSm hvl hIM h hrow hcz hSr q5 hr0 hr1 hrow1 hcz1 hSr1 hz1
    by_cases hz : z = 0
    · subst hz
      rw [if_pos rfl]
      go_enter Tryz.func18, Tryz.ntmps18
      go_wp2_with fail
      go_ret
      exact ⟨rfl, hX⟩
    · have hzb : (z == 0) = false := beq_eq_false_iff_ne.2 hz
      rw [if_neg hz]
      go_enter Tryz.func18, Tryz.ntmps18
      go_wp2_with fail
      go_ret
      exact ⟨rfl, hX⟩
  · have htw : twE M = 5 := by unfold twE; rw [if_neg (by omega)]
    have h1 : ¬ ((lm : Int) = 2) := by omega
    have h2 : ((lm : Int) == 2) = false := beq_eq_false_iff_ne.2 h1
    have h3 : ((lm : Int) != 2) = true := by simp [bne, h2]
    rw [htw]
    clear htw hrm hSm hvl hIM h q5 hl hmc hp0
    go_enter Tryz.func18, Tryz.ntmps18
    go_wp2_with fail
    go_ret
    exact ⟨rfl, hX⟩
end Go.Proofs.YtnlajhjoakijmaaGreatDoor
