/- Part 25 of the proof of the claim: contracts of the functions that it reaches, and plain laws; no condition. -/
import Derived.Test.YtkjnjmihfonilaaGreatDoorV24
import Derived.Test.YtkjnjmihfonilaaGreatDoorV23
import Derived.Test.YtkjnjmihfonilaaGreatDoorV08
import Derived.Test.YtkjnjmihfonilaaGreatDoorV11
namespace Go.Proofs.YtkjnjmihfonilaaGreatDoor
open Go.RowKit Go.Sort
def bgE (n : Nat) (x : List Int) : Int := if chkRow x = 0 then (if x.length = n then 0 else 5) else chkRow x
theorem tmE_same (M : Mx) : tmE M M = 0 := if_pos rfl
set_option maxRecDepth 100000 in
set_option maxHeartbeats 4000000 in
theorem begin1_any {w : World} {P : List Int} {C M : Mx} {sp : Option Addr} {cp : Nat} {sc : Option Addr} {lc cc : Nat} {sm : Option Addr} {lm cm : Nat} {b : Nat} {vx : Value} {x : List Int} (h : TmV w P C M M sp cp sc lc cc sm lm cm) (hb : w.cell? ⟨b, 0, none⟩ = some vx) (hx : RowR w vx x) (hL : Laid w) :
    Calls Tryz.prog 48 #[tmS P sp cp sc lc cc sm lm cm, .slice (some ⟨b, 0, none⟩) 1 1] w fun e w' => e = .returned (.int .i64 (bgE P.length x)) ∧ Ext w w' := by
  have hck := Lib.hid (fun W (hW : Ext w W) => tCheck_any (h.ext hW) (hL.ext hW))
  rw [tmE_same] at hck
  have hrc := Lib.hid (fun W (hW : Ext w W) => rowCheck_any (hx.ext hW))
  obtain ⟨sx, gx, ox, cx, rfl, _, _⟩ := hx
  have hX := (Ext.refl w).alloc (.cells #[.slice sp P.length cp, .slice sc lc cc, .slice sm lm cm] 34)
  have x0 : (w.alloc (.cells #[.slice sp P.length cp, .slice sc lc cc, .slice sm lm cm] 34)).cell? ⟨w.heap.size, 0, none⟩ = some (.slice sp P.length cp) := by go_simp
  have x1 : (w.alloc (.cells #[.slice sp P.length cp, .slice sc lc cc, .slice sm lm cm] 34)).cell? ⟨w.heap.size, 1, none⟩ = some (.slice sc lc cc) := by go_simp
  have x2 : (w.alloc (.cells #[.slice sp P.length cp, .slice sc lc cc, .slice sm lm cm] 34)).cell? ⟨w.heap.size, 2, none⟩ = some (.slice sm lm cm) := by go_simp
  have xb := hX.cell hb
  obtain ⟨z, hz⟩ : ∃ z, z = chkRow x := ⟨_, rfl⟩
  have hbg : bgE P.length x = if z = 0 then (if x.length = P.length then 0 else 5) else z := by rw [hz]; rfl
  generalize bgE P.length x = q at *
  rw [← hz] at hrc
  generalize x.length = nx at *
  have Hq := Lib.hid hbg
  clear hz hbg h hL hb
  go_enter Tryz.func48, Tryz.ntmps48
  go_wp2_with fail
  generalize w.alloc (.cells #[.slice sp P.length cp, .slice sc lc cc, .slice sm lm cm] 34) = V at *
  refine (hck.out _ hX).mono ?_
  rintro e X ⟨rfl, hE1⟩
  have y0 := hE1.cell x0
  have yb := hE1.cell xb
  have e1 := hX.trans hE1
  clear hck x0 x1 x2 xb hX hE1
  generalize P.length = n at *
  go_wp2_with fail
  go_loopw [16] (fun idx wr => ∃ i : Nat, i ≤ 1 ∧ idx = .int .i64 i ∧ Hid (0 < i → z = 0 ∧ nx = n) ∧ Ext X wr) (fun idx _ => 1 - (intOf idx).toNat)
  case atStart => exact ⟨0, by omega, by go_num, Lib.hid (fun h => by omega), Ext.refl _⟩
  case round =>
    obtain ⟨i, hi, rfl, HK, hE⟩ := hrel
    generalize wr = Y at *
    have yb1 := hE.cell yb
    have y01 := hE.cell y0
    rcases (show i = 0 ∨ i = 1 by omega) with rfl | rfl
    · have hr := Lib.hid (hrc.out _ (e1.trans hE))
      clear hrc hi HK
      by_cases hz : z = 0
      · subst hz
        by_cases hn : nx = n
        · subst hn
          go_wp2_with fail
          refine hr.out.mono ?_
          rintro e W ⟨rfl, hE2⟩
          have y02 := hE2.cell y01
          go_wp2_with fail
          go_roundw
          case rel => exact ⟨1, by omega, by go_num, Lib.hid (fun _ => by simp), hE.trans hE2⟩
          case measure => simp [intOf]
        · have h1 : ¬ ((nx : Int) = (n : Int)) := by omega
          have h2 : ((nx : Int) == (n : Int)) = false := beq_eq_false_iff_ne.2 h1
          have h3 : ((nx : Int) != (n : Int)) = true := by simp [bne, h2]
          have H5 := Lib.hid (show (5 : Int) = q by rw [Hq.out, if_pos rfl, if_neg hn])
          clear hn
          go_wp2_with fail
          refine hr.out.mono ?_
          rintro e W ⟨rfl, hE2⟩
          have y02 := hE2.cell y01
          have eF := (e1.trans hE).trans hE2
          go_wp2_with fail
          go_ret
          exact ⟨ret_val (congrArg (Value.int .i64) H5.out), eF⟩
      · have h2 : (z == 0) = false := beq_eq_false_iff_ne.2 hz
        have h3 : (z != 0) = true := by simp [bne, h2]
        have H5 := Lib.hid (show z = q by rw [Hq.out, if_neg hz])
        clear hz
        go_wp2_with fail
        refine hr.out.mono ?_
        rintro e W ⟨rfl, hE2⟩
        have eF := (e1.trans hE).trans hE2
        go_wp2_with fail
        go_ret
        exact ⟨ret_val (congrArg (Value.int .i64) H5.out), eF⟩
    · obtain ⟨k1, k2⟩ := HK.out (by omega)
      have H5 := Lib.hid (show (0 : Int) = q by rw [Hq.out, if_pos k1, if_pos k2])
      clear k1 k2
      go_wp2_with fail
      go_ret
      exact ⟨ret_val (congrArg (Value.int .i64) H5.out), e1.trans hE⟩
end Go.Proofs.YtkjnjmihfonilaaGreatDoor
namespace Go.Proofs.YtkjnjmihfonilaaGreatDoor
open Go.RowKit Go.Sort
theorem tmp_b {f : Nat → Int} (hf : ∀ i, (f i).natAbs ≤ 1000000000000000000) : ∀ k, (sumZ f k).natAbs ≤ k * 1000000000000000000
  | 0 => by simp [sumZ]
  | k + 1 => by
    have h1 := tmp_b hf k
    have h2 := hf k
    rw [sumZ]; omega
theorem nd_b66 {z : Int} (h : z.natAbs ≤ 64000000000000000000) : nd z ≤ 67 := nd_lt2 (E := 66) (by
  have e : (2 : Nat) ^ 66 = 73786976294838206464 := by decide
  rw [e]; omega)
theorem prod_b {a b : Int} (ha : -1000000000 ≤ a ∧ a ≤ 1000000000) (hb : -1000000000 ≤ b ∧ b ≤ 1000000000) : (a * b).natAbs ≤ 1000000000000000000 := by
  rw [Int.natAbs_mul]
  have := Nat.mul_le_mul (show a.natAbs ≤ 1000000000 by omega) (show b.natAbs ≤ 1000000000 by omega)
  omega
theorem getD_bd9 {l : List Int} (h : ∀ z ∈ l, -1000000000 ≤ z ∧ z ≤ 1000000000) (i : Nat) : -1000000000 ≤ l.getD i 0 ∧ l.getD i 0 ≤ 1000000000 := by
  rw [List.getD_eq_getElem?_getD]
  rcases Nat.lt_or_ge i l.length with hi | hi
  · rw [List.getElem?_eq_getElem hi]; exact h _ (List.getElem_mem hi)
  · rw [List.getElem?_eq_none hi]; simp
def tmpT (x v : List Int) (j : Nat) : Int := sumZ (fun i => x.getD i 0 * v.getD i 0) j
theorem tmpT_succ (x v : List Int) (j : Nat) : tmpT x v (j + 1) = tmpT x v j + x.getD j 0 * v.getD j 0 := rfl
theorem tmpT_b {x v : List Int} (hx : ∀ z ∈ x, -1000000000 ≤ z ∧ z ≤ 1000000000) (hv : ∀ z ∈ v, -1000000000 ≤ z ∧ z ≤ 1000000000) {j : Nat} (hj : j ≤ 64) : nd (tmpT x v j) ≤ 67 := by
  have := tmp_b (f := fun i => x.getD i 0 * v.getD i 0) (fun i => prod_b (getD_bd9 hx i) (getD_bd9 hv i)) j
  refine nd_b66 ?_
  unfold tmpT
  omega
set_option maxRecDepth 100000 in
set_option maxHeartbeats 4000000 in
theorem temper_any {w : World} {P : List Int} {C M : Mx} {sp : Option Addr} {cp : Nat} {sc : Option Addr} {lc cc : Nat} {sm : Option Addr} {lm cm : Nat} {sx : Option Addr} {n cx : Nat} {x : List Int} (h : TmV w P C M M sp cp sc lc cc sm lm cm) (hx : RowR w (.slice sx n cx) x) (hc : chkRow x = 0) (hl : x.length = P.length) (hL : Laid w) :
    Calls Tryz.prog 49 #[tmS P sp cp sc lc cc sm lm cm, .slice sx n cx] w fun e w' => ∃ v', e = .returned v' ∧ IntsV w.heap.size w' v' (tmpL M x) ∧ Ext w w' := by
  obtain ⟨hok, hP, hC, hM⟩ := h
  obtain ⟨psM, hIM⟩ := hok.kM.1
  have hlM := isH_len hIM
  have hp4 := hok.p4
  obtain ⟨hx64, hxb⟩ := chkRow_ok hc
  have Hxb := Lib.hid hxb
  have HsM := Lib.hid hok.sM
  have HrM := Lib.hid (show ∀ r ∈ M, r.length = x.length from fun r hr => by rw [hIM.rect r hr, hl])
  have HL := Lib.hid hL
  obtain ⟨sx', gx, ox, cx', ex, hxc, hSx⟩ := hx
  injection ex with q1 q2 q3
  subst q1 q3
  rw [q2]
  have hnx : x.length ≤ 4 := by omega
  have HSx := Lib.hid hSx
  obtain ⟨sm', gm, om, cm', vs, em, hmc, hvl, hSm, hrm⟩ := hM
  injection em with q4 q5 q6
  subst q4 q6
  rw [q5]
  have hlM4 : M.length ≤ 4 := by omega
  have HS := Lib.hid hSm
  have HV := Lib.hid hvl
  have HR := Lib.hid hrm
  have hX := (Ext.refl w).alloc (.cells #[.slice sp P.length cp, .slice sc lc cc, .slice sm M.length cm] 34)
  have x2 : (w.alloc (.cells #[.slice sp P.length cp, .slice sc lc cc, .slice sm M.length cm] 34)).cell? ⟨w.heap.size, 2, none⟩ = some (.slice sm M.length cm) := by go_simp
  have hsz : w.heap.size ≤ (w.alloc (.cells #[.slice sp P.length cp, .slice sc lc cc, .slice sm M.length cm] 34)).heap.size := by simp
  clear hxb hIM hok hP hC hl hp4 hlM hSm hvl hrm hL hSx q2 q5 hc hx64
  go_enter Tryz.func49, Tryz.ntmps49
  go_wp2_with fail
  generalize w.alloc (.cells #[.slice sp P.length cp, .slice sc lc cc, .slice sm M.length cm] 34) = V at *
  generalize P.length = np at *
  go_loopw [5, 14] (fun out idx wr => ∃ i : Nat, i ≤ M.length ∧ idx = .int .i64 i ∧ Hid (IntsV V.heap.size wr out ((tmpL M x).take i)) ∧ Ext V wr) (fun _ idx _ => M.length - (intOf idx).toNat)
  case atStart => exact ⟨0, by omega, by go_num, Lib.hid (by rw [List.take_zero]; exact IntsV.nil _ _), Ext.refl _⟩
  case round =>
    obtain ⟨i, hi', rfl, hV, hE⟩ := hrel
    generalize wr = X at *
    by_cases hlt : i < M.length
    · have hii : (i : Int) < (M.length : Int) := by omega
      obtain rfl := HS.out.addr (by rw [HV.out]; omega)
      obtain ⟨sr, br, or, cr, hrow, hrc, hSr⟩ := MatR.row HS.out HV.out HR.out hlt
      obtain ⟨r, hr⟩ : ∃ r, r = M[i] := ⟨_, rfl⟩
      have hrl := HrM.out _ (List.getElem_mem hlt)
      have Hrb := Lib.hid (HsM.out _ (List.getElem_mem hlt))
      have Htk := Lib.hid (show (tmpL M x).take (i + 1) = (tmpL M x).take i ++ [tmpE x M[i]] by
        rw [List.take_succ_eq_append_getElem (by simpa using hlt)]
        simp [tmpL])
      rw [← hr] at hrow hrc hSr hrl Hrb Htk
      have eX := hX.trans hE
      have hrow' := eX.cell hrow
      have HSr := Lib.hid (hSr.ext eX)
      have HSx2 := Lib.hid (HSx.out.ext eX)
      have Hil := Lib.hid (show ((tmpL M x).take i).length = i by rw [List.length_take, tmpL_length]; omega)
      rw [hrl] at hrow' hrc
      clear hrow hSr hr
      obtain ⟨m, hm⟩ : ∃ m, m = x.length := ⟨_, rfl⟩
      rw [← hm] at hrow' hrc hxc hnx ⊢
      have Hm := Lib.hid hm
      have Hrl := Lib.hid (hrl.trans hm.symm)
      clear hm hrl
      go_wp2_with fail
      go_loopw [8, 20] (fun sv jdx wr => ∃ j : Nat, j ≤ m ∧ jdx = .int .i64 j ∧ sv = I (tmpT x r j) ∧ Ext X wr) (fun _ jdx _ => m - (intOf jdx).toNat)
      case atStart => exact ⟨0, by omega, by go_num, (show I 0 = _ by unfold I S; rw [itoa_zero]).symm, Ext.refl _⟩
      case round =>
        obtain ⟨j, hj, rfl, rfl, hE2⟩ := hrel
        generalize wr = Y at *
        by_cases hjl : j < m
        · have hji : (j : Int) < (m : Int) := by omega
          have hj1 : j < x.length := by rw [← Hm.out]; exact hjl
          have hj2 : j < r.length := by rw [Hrl.out]; exact hjl
          obtain ⟨a, ha⟩ : ∃ a, a = x.getD j 0 := ⟨_, rfl⟩
          obtain ⟨b, hb⟩ : ∃ b, b = r.getD j 0 := ⟨_, rfl⟩
          have Hts := Lib.hid (tmpT_succ x r j)
          rw [← ha, ← hb] at Hts
          have hca := hE2.cell (HSx2.out.cell j (.int .i64 a) (by rw [ha, getD_get hj1]; exact is_get hj1))
          have hcb := hE2.cell (HSr.out.cell j (.int .i64 b) (by rw [hb, getD_get hj2]; exact is_get hj2))
          obtain rfl := HSx.out.addr (by simp; omega)
          obtain rfl := HSr.out.addr (by simp; omega)
          have hab := getD_bd9 Hxb.out j
          have hbb := getD_bd9 Hrb.out j
          rw [← ha] at hab
          rw [← hb] at hbb
          have n1 := tmpT_b Hxb.out Hrb.out (j := j) (by omega)
          have n2 := nd_b66 (z := a * b) (by have := prod_b hab hbb; omega)
          have n3 := nd_b66 (z := a) (by omega)
          have n4 := nd_b66 (z := b) (by omega)
          obtain ⟨s, hs⟩ : ∃ s, s = tmpT x r j := ⟨_, rfl⟩
          rw [← hs] at n1 Hts ⊢
          have eY := eX.trans hE2
          have HeY := Lib.hid eY
          have c1 := Lib.hid (quietC (w := Y) (fun W hW => wholeOf_any (n := a) (w := W) (by omega) (by omega) (HL.out.ext (HeY.out.trans hW))))
          have c2 := Lib.hid (quietC (w := Y) (fun W hW => wholeOf_any (n := b) (w := W) (by omega) (by omega) (HL.out.ext (HeY.out.trans hW))))
          have c3 := Lib.hid (quietC (w := Y) (fun W hW => Mul_any (a := a) (b := b) (w := W) (by unfold LIM; omega) (HL.out.ext (HeY.out.trans hW))))
          have c4 := Lib.hid (quietC (w := Y) (fun W hW => Add_any (a := s) (b := a * b) (w := W) (by unfold LIM; omega) (by unfold LIM; omega) (HL.out.ext (HeY.out.trans hW))))
          have k2 := cell_regrown hcb
          clear hab hbb n1 n2 n3 n4 hs ha hb eY hj1 hj2
          go_wp2_with fail
          refine wp_region_quiet_tail 10 (by kernel_rfl) (by kernel_rfl) ?_
          simp only [List.take_succ_cons, List.take_zero, List.drop_succ_cons, List.drop_zero]
          repeat (quiet_step (first | exact c1.out _ _ | exact c2.out _ _ | exact c3.out _ _ | exact c4.out _ _))
          refine wpQuiet_nil ?_
          intro _ hw'
          obtain ⟨⟨dq, osq⟩, hw''⟩ := hw'
          subst hw''
          have hE5 := hE2.trans (ext_regrown Y dq osq)
          clear c1 c2 c3 c4 k2
          generalize grow (redrawn Y dq) osq = w5 at *
          go_wp2_with fail
          go_roundw
          case rel => exact ⟨j + 1, by omega, by go_num, by rw [Hts.out], hE5⟩
          case measure => simp [intOf] <;> omega
        · obtain rfl : j = m := by omega
          have Hte := Lib.hid (show tmpT x r j = tmpE x r by rw [Hm.out]; rfl)
          rw [Hte.out]
          have HVY := Lib.hid (hV.out.ext hE2)
          have hYs := (hE.trans hE2).size
          have hEY := hE.trans hE2
          obtain ⟨z, hz⟩ : ∃ z, z = tmpE x r := ⟨_, rfl⟩
          rw [← hz] at Htk ⊢
          clear hV hz
          go_wp2_with (at_builtin; refine app_ints rfl _ _ rfl rfl (HVY.out.ext ((Ext.refl _).alloc _)) rfl (b := Y.heap.size) (z := z) (by go_simp) (by rw [Hil.out]; omega) (by simp; omega) ?_; intro gg cap2 w8 hO8 hB8 hG8; rw [Hil.out, ← Htk.out] at hO8; rw [Hil.out])
          have hE8 : Ext V w8 := Below.trans (hEY.alloc (.cells #[I z] 80)) hB8
          have HO8 := Lib.hid hO8
          clear hG8 hB8 hO8
          go_wp2_with fail
          go_roundw
          case rel => exact ⟨i + 1, by omega, by go_num, HO8, hE8⟩
          case measure => simp [intOf] <;> omega
    · obtain rfl : i = M.length := by omega
      have HF := Lib.hid (show IntsV V.heap.size X u5 (tmpL M x) by have := hV.out; rw [List.take_of_length_le (by simp)] at this; exact this)
      go_wp2_with fail
      go_ret
      exact ⟨_, rfl, HF.out.mono hsz, hX.trans hE⟩
end Go.Proofs.YtkjnjmihfonilaaGreatDoor
namespace Go.Proofs.YtkjnjmihfonilaaGreatDoor
open Go.RowKit Go.Sort
theorem bgE_ok {n : Nat} {x : List Int} (h : bgE n x = 0) : chkRow x = 0 ∧ x.length = n := by
  unfold bgE at h
  split at h
  · rename_i h1
    split at h
    · rename_i h2; exact ⟨h1, h2⟩
    · cases h
  · rename_i h1; exact absurd h h1
def TpPost (w : World) (np : Nat) (M : Mx) (x : List Int) (e : Ending) (w' : World) : Prop :=
  Ext w w' ∧ ((bgE np x = 0 ∧ smallB (tmpL M x) = true ∧ ∃ v, e = .returned (.tuple #[v, .int .i64 0]) ∧ RowV w.heap.size w' v (tmpL M x)) ∨ (bgE np x = 0 ∧ smallB (tmpL M x) = false ∧ e = .returned (.tuple #[.slice none 0 0, .int .i64 4])) ∨ (bgE np x ≠ 0 ∧ e = .returned (.tuple #[.slice none 0 0, .int .i64 (bgE np x)])))
theorem tmpL_nd {M : Mx} {x : List Int} (hx : ∀ z ∈ x, -1000000000 ≤ z ∧ z ≤ 1000000000) (hM : SmK M) (hl : x.length ≤ 64) : ∀ z ∈ tmpL M x, nd z ≤ 67 := fun z hz => by
  obtain ⟨v, hv, rfl⟩ := List.mem_map.1 hz
  exact tmpT_b hx (hM v hv) hl
set_option maxRecDepth 100000 in
set_option maxHeartbeats 4000000 in
theorem Temper_any {w : World} {P : List Int} {C M : Mx} {sp : Option Addr} {cp : Nat} {sc : Option Addr} {lc cc : Nat} {sm : Option Addr} {lm cm : Nat} {sx : Option Addr} {n cx : Nat} {x : List Int} (h : TmV w P C M M sp cp sc lc cc sm lm cm) (hx : RowR w (.slice sx n cx) x) (hL : Laid w) :
    Calls Tryz.prog 22 #[tmS P sp cp sc lc cc sm lm cm, .slice sx n cx] w (TpPost w P.length M x) := by
  have hbe := fun W b (hW : Ext w W) (hc : W.cell? ⟨b, 0, none⟩ = some (.slice sx n cx)) => begin1_any (b := b) (h.ext hW) hc (hx.ext hW) (hL.ext hW)
  have hX := (Ext.refl w).alloc (.cells #[.slice sp P.length cp, .slice sc lc cc, .slice sm lm cm] 34)
  have x0 : (w.alloc (.cells #[.slice sp P.length cp, .slice sc lc cc, .slice sm lm cm] 34)).cell? ⟨w.heap.size, 0, none⟩ = some (.slice sp P.length cp) := by go_simp
  have x1 : (w.alloc (.cells #[.slice sp P.length cp, .slice sc lc cc, .slice sm lm cm] 34)).cell? ⟨w.heap.size, 1, none⟩ = some (.slice sc lc cc) := by go_simp
  have x2 : (w.alloc (.cells #[.slice sp P.length cp, .slice sc lc cc, .slice sm lm cm] 34)).cell? ⟨w.heap.size, 2, none⟩ = some (.slice sm lm cm) := by go_simp
  have hsz : w.heap.size ≤ (w.alloc (.cells #[.slice sp P.length cp, .slice sc lc cc, .slice sm lm cm] 34)).heap.size := by simp
  have xb : ((w.alloc (.cells #[.slice sp P.length cp, .slice sc lc cc, .slice sm lm cm] 34)).alloc (.cells #[.slice sx n cx] 26)).cell? ⟨w.heap.size + 1, 0, none⟩ = some (.slice sx n cx) := by go_simp
  by_cases hb : bgE P.length x = 0
  · obtain ⟨hcx, hlx⟩ := bgE_ok hb
    obtain ⟨hx64, hxb⟩ := chkRow_ok hcx
    obtain ⟨psM, hIM⟩ := h.ok.kM.1
    have hlM := isH_len hIM
    have hp4 := h.ok.p4
    have hte := Lib.hid (fun W (hW : Ext w W) => temper_any (h.ext hW) (hx.ext hW) hcx hlx (hL.ext hW))
    rw [hb] at hbe
    have Hbe := Lib.hid hbe
    have Hnd := Lib.hid (tmpL_nd hxb h.ok.sM hx64)
    have HL := Lib.hid hL
    have Hb := Lib.hid hb
    have hlen : (tmpL M x).length ≤ 4 := by rw [tmpL_length]; omega
    clear hcx hlx hx64 hxb hIM hlM hp4 hbe hb h hx hL
    obtain ⟨l, hl⟩ : ∃ l, l = tmpL M x := ⟨_, rfl⟩
    rw [← hl] at hte Hnd hlen
    have Hl := Lib.hid hl
    clear hl
    go_enter Tryz.func22, Tryz.ntmps22
    go_wp2_with fail
    refine (Hbe.out _ (w.heap.size + 1) (hX.alloc (.cells #[.slice sx n cx] 26)) xb).mono ?_
    generalize w.alloc (.cells #[.slice sp P.length cp, .slice sc lc cc, .slice sm lm cm] 34) = V at *
    rintro e X ⟨rfl, hE1⟩
    have y0 := hE1.cell (((Ext.refl V).alloc (.cells #[.slice sx n cx] 26)).cell x0)
    have y1 := hE1.cell (((Ext.refl V).alloc (.cells #[.slice sx n cx] 26)).cell x1)
    have y2 := hE1.cell (((Ext.refl V).alloc (.cells #[.slice sx n cx] 26)).cell x2)
    have e1 := (hX.alloc (.cells #[.slice sx n cx] 26)).trans hE1
    clear x0 x1 x2 xb Hbe hX hE1
    go_wp2_with fail
    refine (hte.out _ e1).mono ?_
    rintro e X2 ⟨v1, rfl, hv1, hE2⟩
    obtain ⟨ga, gb, cap, rfl, hcap, hS⟩ := hv1.sl
    have HS := Lib.hid hS
    have e2 := e1.trans hE2
    clear hv1 hS hte hE2 y0 y1 y2
    go_wp2_with fail
    go_loopw [7, 23] (fun out idx wr => ∃ i : Nat, i ≤ l.length ∧ idx = .int .i64 i ∧ Hid (RowV X2.heap.size wr out (l.take i)) ∧ Hid (∀ j (h : j < l.length), j < i → grt l[j] = false) ∧ Ext X2 wr) (fun _ idx _ => l.length - (intOf idx).toNat)
    case atStart => exact ⟨0, by omega, by go_num, Lib.hid (by rw [List.take_zero]; exact RowV.nil _ _), Lib.hid (fun j _ h => by omega), Ext.refl _⟩
    case round =>
      obtain ⟨i, hi', rfl, HO, Hz, hE⟩ := hrel
      generalize wr = Y at *
      by_cases hlt : i < l.length
      · have hii : (i : Int) < (l.length : Int) := by omega
        obtain ⟨z, hz⟩ : ∃ z, z = l[i] := ⟨_, rfl⟩
        have hc := hE.cell (HS.out.cell i (I z) (by rw [hz]; simp [ss, hlt]))
        rw [Nat.zero_add] at hc
        obtain rfl := HS.out.addr (by simp; omega)
        have hsm := Lib.hid (wholeSmall_any (z := z) (w := Y) (by have := Hnd.out z (by rw [hz]; exact List.getElem_mem hlt); unfold LIM; omega) (HL.out.ext (e2.trans hE)))
        have Hzz := Lib.hid hz
        have Hil := Lib.hid (show (l.take i).length = i by rw [List.length_take]; omega)
        have Htk := Lib.hid (show l.take (i + 1) = l.take i ++ [z] by rw [List.take_succ_eq_append_getElem hlt, hz])
        have hYs := hE.size
        cases hgz : grt z
        · have hzb : -1000000000 ≤ z ∧ z ≤ 1000000000 := by
            unfold grt at hgz; have := of_decide_eq_false hgz; omega
          have hin : inI64 z = true := decide_eq_true (by omega)
          rw [hin, if_pos rfl] at hsm
          obtain ⟨hy1, hy2⟩ := hzb
          have Hgz := Lib.hid hgz
          clear hin hgz hz
          go_wp2_with fail
          refine hsm.out.mono ?_
          rintro e W ⟨rfl, hW⟩
          have HOW := Lib.hid (HO.out.ext hW)
          have hWs := (hE.trans hW).size
          have hEW := hE.trans hW
          clear HO hsm hW
          go_wp2_with (at_builtin; refine app_int rfl _ _ 26 Tryz.underlying26 rfl rfl (HOW.out.ext ((Ext.refl _).alloc _)) rfl (b := W.heap.size) (z := z) (by go_simp) (by rw [Hil.out]; omega) (by simp; omega) ?_; intro gg cap2 w8 hO8 hB8 hG8; rw [Hil.out] at hO8 ⊢; rw [← Htk.out] at hO8)
          have hE8 : Ext X2 w8 := Below.trans (hEW.alloc (.cells #[.int .i64 z] 3)) hB8
          have HO8 := Lib.hid hO8
          clear hG8 hB8 hO8
          go_wp2_with fail
          go_roundw
          case rel => exact ⟨i + 1, by omega, by go_num, HO8, Lib.hid (fun j h hj => by
            by_cases e : j = i
            · subst e; rw [← Hzz.out]; exact Hgz.out
            · exact Hz.out j h (by omega)), hE8⟩
          case measure => simp [intOf] <;> omega
        · have Hno := Lib.hid (small_not hlt (by rw [← hz]; exact hgz))
          have hzb : 1000000000 < z ∨ z < -1000000000 := by
            unfold grt at hgz; exact of_decide_eq_true hgz
          clear hgz hz
          have hfin : ∀ W, Ext Y W → TpPost w P.length M x (.returned (.tuple #[.slice none 0 0, .int .i64 4])) W := fun W hW => ⟨(e2.trans hE).trans hW, .inr (.inl ⟨Hb.out, by rw [← Hl.out]; exact Hno.out, rfl⟩)⟩
          have Hfin := Lib.hid hfin
          clear hfin
          cases hin : inI64 z
          · rw [hin, if_neg (by decide)] at hsm
            clear hin hzb
            go_wp2_with fail
            refine hsm.out.mono ?_
            rintro e W ⟨rfl, hW⟩
            go_wp2_with fail
            go_ret2
            exact Hfin.out _ hW
          · rw [hin, if_pos rfl] at hsm
            clear hin
            rcases hzb with hzb | hzb
            · go_wp2_with fail
              refine hsm.out.mono ?_
              rintro e W ⟨rfl, hW⟩
              go_wp2_with fail
              go_ret2
              exact Hfin.out _ hW
            · have hzc : z ≤ 1000000000 := by omega
              go_wp2_with fail
              refine hsm.out.mono ?_
              rintro e W ⟨rfl, hW⟩
              go_wp2_with fail
              go_ret2
              exact Hfin.out _ hW
      · obtain rfl : i = l.length := by omega
        have HF := Lib.hid (show RowV X2.heap.size Y u7 l by have := HO.out; rw [List.take_length] at this; exact this)
        have Hs := Lib.hid (show smallB l = true from small_yes (fun j hj => Hz.out j hj hj))
        have hs2 := e2.size
        go_wp2_with fail
        go_ret2
        exact ⟨e2.trans hE, .inl ⟨Hb.out, by rw [← Hl.out]; exact Hs.out, _, rfl, by rw [← Hl.out]; exact HF.out.mono hs2⟩⟩
  · have Hbe := Lib.hid hbe
    obtain ⟨z, hz⟩ : ∃ z, z = bgE P.length x := ⟨_, rfl⟩
    have Hfin := Lib.hid (show ∀ W, Ext w W → TpPost w P.length M x (.returned (.tuple #[.slice none 0 0, .int .i64 z])) W from fun W hW => ⟨hW, .inr (.inr ⟨hb, by rw [hz]⟩)⟩)
    rw [← hz] at hbe hb
    have Hbe := Lib.hid hbe
    have h2 : (z == 0) = false := beq_eq_false_iff_ne.2 hb
    have h3 : (z != 0) = true := by simp [bne, h2]
    clear hz h hx hL hbe
    go_enter Tryz.func22, Tryz.ntmps22
    go_wp2_with fail
    refine (Hbe.out _ (w.heap.size + 1) (hX.alloc (.cells #[.slice sx n cx] 26)) xb).mono ?_
    generalize w.alloc (.cells #[.slice sp P.length cp, .slice sc lc cc, .slice sm lm cm] 34) = V at *
    rintro e X ⟨rfl, hE1⟩
    have e1 := (hX.alloc (.cells #[.slice sx n cx] 26)).trans hE1
    go_wp2_with fail
    go_ret2
    exact Hfin.out _ e1
end Go.Proofs.YtkjnjmihfonilaaGreatDoor
namespace Go.Proofs.YtkjnjmihfonilaaGreatDoor
open Go.RowKit Go.Sort
set_option maxRecDepth 100000 in
theorem gsized_any {w : World} {sx : Option Addr} {n cx m : Nat} {x : List Int} (hx : RowR w (.slice sx n cx) x) :
    Calls Tryz.prog 40 #[.slice sx n cx, .int .i64 m] w fun e w' => e = .returned (.int .i64 (bgE m x)) ∧ Ext w w' := by
  have hrc := rowCheck_any hx
  have hn : n = x.length := by obtain ⟨_, _, _, _, e, _, _⟩ := hx; injection e
  obtain ⟨z, hz⟩ : ∃ z, z = chkRow x := ⟨_, rfl⟩
  have hbg : bgE m x = if z = 0 then (if n = m then 0 else 5) else z := by rw [hz, hn]; rfl
  rw [hbg]
  rw [← hz] at hrc
  have hr := Lib.hid hrc
  clear hz hbg hrc hx hn
  by_cases hz : z = 0
  · subst hz
    by_cases hn : n = m
    · subst hn
      rw [if_pos rfl, if_pos rfl]
      go_enter Tryz.func40, Tryz.ntmps40
      go_wp2_with fail
      refine hr.out.mono ?_
      rintro e W ⟨rfl, hE2⟩
      go_wp2_with fail
      go_ret
      exact ⟨rfl, hE2⟩
    · have h1 : ¬ ((n : Int) = (m : Int)) := by omega
      have h2 : ((n : Int) == (m : Int)) = false := beq_eq_false_iff_ne.2 h1
      have h3 : ((n : Int) != (m : Int)) = true := by simp [bne, h2]
      rw [if_pos rfl, if_neg hn]
      clear hn
      go_enter Tryz.func40, Tryz.ntmps40
      go_wp2_with fail
      refine hr.out.mono ?_
      rintro e W ⟨rfl, hE2⟩
      go_wp2_with fail
      go_ret
      exact ⟨rfl, hE2⟩
  · have h2 : (z == 0) = false := beq_eq_false_iff_ne.2 hz
    have h3 : (z != 0) = true := by simp [bne, h2]
    rw [if_neg hz]
    go_enter Tryz.func40, Tryz.ntmps40
    go_wp2_with fail
    refine hr.out.mono ?_
    rintro e W ⟨rfl, hE2⟩
    go_wp2_with fail
    go_ret
    exact ⟨rfl, hE2⟩
def twE (M : Mx) : Int := if M.length = 2 then (if eM M 0 0 = 0 then 26 else 0) else 5
set_option maxRecDepth 100000 in
set_option maxHeartbeats 4000000 in
theorem gtwo_any {w : World} {P : List Int} {C M : Mx} {sp : Option Addr} {cp : Nat} {sc : Option Addr} {lc cc : Nat} {sm : Option Addr} {lm cm : Nat} (h : TmV w P C M M sp cp sc lc cc sm lm cm) (hL : Laid w) :
    Calls Tryz.prog 65 #[tmS P sp cp sc lc cc sm lm cm] w fun e w' => e = .returned (.int .i64 (twE M)) ∧ Ext w w' := by
  have hck := Lib.hid (fun W (hW : Ext w W) => tCheck_any (h.ext hW) (hL.ext hW))
  rw [tmE_same] at hck
  obtain ⟨psM, hIM⟩ := h.ok.kM.1
  have hp0 := h.ok.p0
  obtain ⟨sm', gm, om, cm', vs, em, hmc, hvl, hSm, hrm⟩ := h.hM
  injection em with q4 q5 q6
  subst q4 q6
  have HrM := Lib.hid hIM.rect
  have hX := (Ext.refl w).alloc (.cells #[.slice sp P.length cp, .slice sc lc cc, .slice sm lm cm] 34)
  have x0 : (w.alloc (.cells #[.slice sp P.length cp, .slice sc lc cc, .slice sm lm cm] 34)).cell? ⟨w.heap.size, 0, none⟩ = some (.slice sp P.length cp) := by go_simp
  have x1 : (w.alloc (.cells #[.slice sp P.length cp, .slice sc lc cc, .slice sm lm cm] 34)).cell? ⟨w.heap.size, 1, none⟩ = some (.slice sc lc cc) := by go_simp
  have x2 : (w.alloc (.cells #[.slice sp P.length cp, .slice sc lc cc, .slice sm lm cm] 34)).cell? ⟨w.heap.size, 2, none⟩ = some (.slice sm lm cm) := by go_simp
  by_cases hl : lm = 2
  · subst hl
    have hM2 : M.length = 2 := q5.symm
    obtain ⟨sr, br, or, cr, hrow, hrc, hSr⟩ := MatR.row hSm hvl hrm (show 0 < M.length by omega)
    obtain rfl := hSm.addr (by omega)
    have hr0 : M[0].length = P.length := HrM.out _ (List.getElem_mem _)
    obtain ⟨z, hz⟩ : ∃ z, z = eM M 0 0 := ⟨_, rfl⟩
    have htw : twE M = if z = 0 then 26 else 0 := by unfold twE; rw [if_pos hM2, hz]
    rw [htw]
    have hcz : w.cell? ⟨br, or, none⟩ = some (.int .i64 z) := by
      have := hSr.cell 0 (.int .i64 z) (by
        rw [hz]; unfold eM
        rw [getD_get (show 0 < M.length by omega), getD_get (show 0 < M[0].length by omega)]
        exact is_get (by omega))
      simpa using this
    obtain rfl := hSr.addr (by simp; omega)
    rw [hr0] at hrow hrc
    rw [Nat.add_zero] at hrow
    have hrowX := hX.cell hrow
    have hczX := hX.cell hcz
    have hpI : (0 : Int) < (P.length : Int) := by omega
    clear htw hz hM2 hrm hSm hvl hIM h hL hrow hcz hSr q5 hr0
    by_cases hz : z = 0
    · subst hz
      rw [if_pos rfl]
      go_enter Tryz.func65, Tryz.ntmps65
      go_wp2_with fail
      refine (hck.out _ hX).mono ?_
      rintro e X ⟨rfl, hE1⟩
      have y2 := hE1.cell x2
      have yr := hE1.cell hrowX
      have yz := hE1.cell hczX
      have e1 := hX.trans hE1
      clear x0 x1 x2 hrowX hczX hE1
      go_wp2_with fail
      go_ret
      exact ⟨rfl, e1⟩
    · have hzb : (z == 0) = false := beq_eq_false_iff_ne.2 hz
      rw [if_neg hz]
      go_enter Tryz.func65, Tryz.ntmps65
      go_wp2_with fail
      refine (hck.out _ hX).mono ?_
      rintro e X ⟨rfl, hE1⟩
      have y2 := hE1.cell x2
      have yr := hE1.cell hrowX
      have yz := hE1.cell hczX
      have e1 := hX.trans hE1
      clear x0 x1 x2 hrowX hczX hE1
      go_wp2_with fail
      go_ret
      exact ⟨rfl, e1⟩
  · have htw : twE M = 5 := by unfold twE; rw [if_neg (by omega)]
    have h1 : ¬ ((lm : Int) = 2) := by omega
    have h2 : ((lm : Int) == 2) = false := beq_eq_false_iff_ne.2 h1
    have h3 : ((lm : Int) != 2) = true := by simp [bne, h2]
    rw [htw]
    clear htw hrm hSm hvl hIM h hL q5 hl hmc hp0
    go_enter Tryz.func65, Tryz.ntmps65
    go_wp2_with fail
    refine (hck.out _ hX).mono ?_
    rintro e X ⟨rfl, hE1⟩
    have y2 := hE1.cell x2
    have e1 := hX.trans hE1
    clear x0 x1 x2 hE1
    go_wp2_with fail
    go_ret
    exact ⟨rfl, e1⟩
def StPost (w : World) (np : Nat) (M : Mx) (x : List Int) (e : Ending) (w' : World) : Prop :=
  Ext w w' ∧ ((twE M ≠ 0 ∧ e = .returned (.tuple #[.int .i64 0, .int .i64 (twE M)])) ∨ (twE M = 0 ∧ bgE np x ≠ 0 ∧ e = .returned (.tuple #[.int .i64 0, .int .i64 (bgE np x)])) ∨ (twE M = 0 ∧ bgE np x = 0 ∧ smallB (tmpL M x) = false ∧ e = .returned (.tuple #[.int .i64 0, .int .i64 4])) ∨ (twE M = 0 ∧ bgE np x = 0 ∧ smallB (tmpL M x) = true ∧ e = .returned (.tuple #[.int .i64 ((tmpL M x).getD 1 0), .int .i64 0])))
set_option maxRecDepth 100000 in
set_option maxHeartbeats 4000000 in
theorem gSteps_any {w : World} {P : List Int} {C M : Mx} {sp : Option Addr} {cp : Nat} {sc : Option Addr} {lc cc : Nat} {sm : Option Addr} {lm cm : Nat} {sx : Option Addr} {n cx : Nat} {x : List Int} (h : TmV w P C M M sp cp sc lc cc sm lm cm) (hx : RowR w (.slice sx n cx) x) (hL : Laid w) :
    Calls Tryz.prog 67 #[tmS P sp cp sc lc cc sm lm cm, .slice sx n cx] w (StPost w P.length M x) := by
  have htw := Lib.hid (fun W (hW : Ext w W) => gtwo_any (h.ext hW) (hL.ext hW))
  have hte := Lib.hid (fun W (hW : Ext w W) => Temper_any (h.ext hW) (hx.ext hW) (hL.ext hW))
  have hX := (Ext.refl w).alloc (.cells #[.slice sp P.length cp, .slice sc lc cc, .slice sm lm cm] 34)
  have x0 : (w.alloc (.cells #[.slice sp P.length cp, .slice sc lc cc, .slice sm lm cm] 34)).cell? ⟨w.heap.size, 0, none⟩ = some (.slice sp P.length cp) := by go_simp
  have x1 : (w.alloc (.cells #[.slice sp P.length cp, .slice sc lc cc, .slice sm lm cm] 34)).cell? ⟨w.heap.size, 1, none⟩ = some (.slice sc lc cc) := by go_simp
  have x2 : (w.alloc (.cells #[.slice sp P.length cp, .slice sc lc cc, .slice sm lm cm] 34)).cell? ⟨w.heap.size, 2, none⟩ = some (.slice sm lm cm) := by go_simp
  obtain ⟨z, hz⟩ : ∃ z, z = twE M := ⟨_, rfl⟩
  rw [← hz] at htw
  have Hz := Lib.hid hz
  have Hl2 := Lib.hid (show z = 0 → M.length = 2 from fun h0 => by
    rw [hz] at h0; unfold twE at h0
    split at h0
    · assumption
    · cases h0)
  clear hz h hx hL
  by_cases h0 : z = 0
  · subst h0
    have Htw := Lib.hid Hz.out.symm
    have hl2 := Hl2.out rfl
    clear Hz Hl2
    go_enter Tryz.func67, Tryz.ntmps67
    go_wp2_with fail
    refine (htw.out _ hX).mono ?_
    rintro e X ⟨rfl, hE1⟩
    have x0 := hE1.cell x0
    have x1 := hE1.cell x1
    have x2 := hE1.cell x2
    have e1 := hX.trans hE1
    clear htw hE1
    go_wp2_with fail
    refine (hte.out _ e1).mono ?_
    rintro e X2 ⟨hE2, (⟨k1, k2, v, rfl, hv⟩ | ⟨k1, k2, rfl⟩ | ⟨k1, rfl⟩)⟩
    · have hl : (tmpL M x).length = 2 := by rw [tmpL_length]; exact hl2
      obtain ⟨sa, gb, go, cap, rfl, hcap, hS⟩ := hv.row
      rw [hl] at hcap ⊢
      obtain ⟨y, hy⟩ : ∃ y, y = (tmpL M x).getD 1 0 := ⟨_, rfl⟩
      have hc1 := hS.cell 1 (.int .i64 y) (by rw [hy, getD_get (by omega)]; exact is_get (by omega))
      obtain rfl := hS.addr (by simp; omega)
      have Hres := Lib.hid (show ∀ W, Ext w W → StPost w P.length M x (.returned (.tuple #[.int .i64 y, .int .i64 0])) W from fun W hW => ⟨hW, .inr (.inr (.inr ⟨Htw.out, k1, k2, by rw [hy]⟩))⟩)
      have e2 := e1.trans hE2
      clear hS hv k1 k2 hy hl hl2 hE2 x0 x1 x2
      go_wp2_with fail
      go_ret2
      exact Hres.out _ e2
    · have Hres := Lib.hid (show ∀ W, Ext w W → StPost w P.length M x (.returned (.tuple #[.int .i64 0, .int .i64 4])) W from fun W hW => ⟨hW, .inr (.inr (.inl ⟨Htw.out, k1, k2, rfl⟩))⟩)
      have e2 := e1.trans hE2
      clear k1 k2 hl2 hE2 x0 x1 x2
      go_wp2_with fail
      go_ret2
      exact Hres.out _ e2
    · have Hres := Lib.hid (show ∀ W, Ext w W → StPost w P.length M x (.returned (.tuple #[.int .i64 0, .int .i64 (bgE P.length x)])) W from fun W hW => ⟨hW, .inr (.inl ⟨Htw.out, k1, rfl⟩)⟩)
      have e2 := e1.trans hE2
      have h2 : (bgE P.length x == 0) = false := beq_eq_false_iff_ne.2 k1
      have h3 : (bgE P.length x != 0) = true := by simp [bne, h2]
      generalize bgE P.length x = y at *
      clear hl2 hE2 x0 x1 x2
      go_wp2_with fail
      go_ret2
      exact Hres.out _ e2
  · have h2 : (z == 0) = false := beq_eq_false_iff_ne.2 h0
    have h3 : (z != 0) = true := by simp [bne, h2]
    have Hres := Lib.hid (show ∀ W, Ext w W → StPost w P.length M x (.returned (.tuple #[.int .i64 0, .int .i64 z])) W from fun W hW => ⟨hW, .inl ⟨by rw [← Hz.out]; exact h0, by rw [Hz.out]⟩⟩)
    clear Hz Hl2 hte
    go_enter Tryz.func67, Tryz.ntmps67
    go_wp2_with fail
    refine (htw.out _ hX).mono ?_
    rintro e X ⟨rfl, hE1⟩
    have e1 := hX.trans hE1
    go_wp2_with fail
    go_ret2
    exact Hres.out _ e1
end Go.Proofs.YtkjnjmihfonilaaGreatDoor
namespace Go.Proofs.YtkjnjmihfonilaaGreatDoor
open Go.RowKit Go.Sort
theorem own_none (w : World) (T : TypeId) : OwnV T w.heap.size (w.alloc (.cells #[] T)) w.heap.size 0 [] :=
  OwnV.of (Nat.le_refl _) Array.getElem?_push_size (by simp) (by unfold maxLen; omega) rfl rfl
section
variable {w : World} {ops : Array Oper} {rest : List Oper} {o : Oper} {a : Act} {Q : Exit → Act → World → Prop}
theorem app_rowP (hgd : o.guard = none) (s x : Operand) (t : TypeId) (ht : Tryz.prog.underlying t = some (.slice 3)) (ho : o.op = .call { callee := .builtin .append, args := #[s, x], argTypes := #[t, t] })
    {B : Nat} {v : Value} {r : List Int} (hs : a.eval s = v) (hown : RowV B w v r) {sa : Option Addr} {n c : Nat} {z : List Int} (hx : a.eval x = .slice sa n c) (hR : RowR w (.slice sa n c) z) (h0 : 0 < n) (hl : r.length + n ≤ 1000000000) (hB : B ≤ w.heap.size)
    (h : ∀ g cap w', RowV B w' (slv g (r.length + n) cap) (r ++ z) → Below B w w' → w.grownBy w' v.ownBlock → (v.ownBlock = some g ∨ g = w.heap.size) → wpList Tryz.prog ops Q rest (a.put o.dst (slv g (r.length + n) cap)) w') : wpList Tryz.prog ops Q (o :: rest) a w := by
  obtain ⟨i0, hi, hz0, hz1, hz2⟩ := info_parts Tryz.infoInt
  obtain ⟨sa', b, c', gc, e, hc, hS⟩ := hR
  injection e with e1 e2 e3
  subst e1 e3
  obtain rfl := hS.addr (by rw [is_length]; omega)
  refine wpList_append_lies w hgd s x t ho B 3 i0 _ 1 8 ht hi hz0 hz1 hz2 rfl (by omega) v r.length (is r) hs hown ⟨b, c', none⟩ n c (is z) hx (by rw [is_length]; omega) ?_ (fun u hu => by obtain ⟨y, _, rfl⟩ := List.mem_map.1 hu; rfl) h0 (by unfold maxLen; omega) (by omega) hB w.heap.size rfl ?_
  · intro j u hj
    rw [Lib.add_plain]; exact hS.cell j u hj
  · intro g cap w' h1 h2 h3 h4
    refine h g cap w' ?_ (Below.grown (Below.refl _ _) h2 hB (fun q hq => (World.ownsRow.lt hown q hq).1)) h2 h3
    unfold RowV
    rw [show is (r ++ z) = is r ++ is z by simp [is], List.length_append, ← e2]; exact h1
theorem app_lrow (hgd : o.guard = none) (s x : Operand) (t : TypeId) (ht : Tryz.prog.underlying t = some (.slice 26)) (ho : o.op = .call { callee := .builtin .append, args := #[s, x], argTypes := #[t, t] })
    {B : Nat} {v rv : Value} {F : Mx} {r : List Int} (hs : a.eval s = v) (hown : MatO B w v F) {b : Nat} (hx : a.eval x = .slice (some ⟨b, 0, none⟩) 1 1) (hc : w.cell? ⟨b, 0, none⟩ = some rv) (hr : RowV B w rv r) (hl : F.length ≤ 1000000000) (hB : B ≤ w.heap.size)
    (h : ∀ g cap w', MatO B w' (slv g (F.length + 1) cap) (F ++ [r]) → Below B w w' → w.grownBy w' v.ownBlock → wpList Tryz.prog ops Q rest (a.put o.dst (slv g (F.length + 1) cap)) w') : wpList Tryz.prog ops Q (o :: rest) a w := by
  obtain ⟨i0, hi, hz0, hz1, hz2⟩ := info_parts Tryz.infoRow
  obtain ⟨vs, h1, h2, h3⟩ := hown
  refine wpList_append_lies w hgd s x t ho B 26 i0 _ 1 24 ht hi hz0 hz1 hz2 rfl (by omega) v F.length vs hs h2 ⟨b, 0, none⟩ 1 1 [rv] hx rfl ?_ ?_ (by omega) (by unfold maxLen; omega) (by omega) hB w.heap.size rfl ?_
  · intro j u hj
    have : j = 0 := by have := (List.getElem?_eq_some_iff.1 hj).1; simp at this; omega
    subst this
    simp only [List.getElem?_cons_zero, Option.some.injEq] at hj
    subst hj
    simpa [Addr.add_lit] using hc
  · intro u hu
    simp only [List.mem_cons, List.not_mem_nil, or_false] at hu
    subst hu; exact hr.one
  · intro g cap w' k1 k2 k3 k4
    have hkeep : ∀ {u : Value} {l : List Int}, RowV B w u l → RowV B w' u l := fun hu => own_kept hu h2 (by decide) k2
    refine h g cap w' ⟨vs ++ [rv], by simp [h1], ?_, fun t ht ht' => ?_⟩ (Below.grown (Below.refl _ _) k2 hB (fun q hq => (World.ownsRow.lt h2 q hq).1)) k2
    · rw [List.length_append]; exact k1
    · rcases Nat.lt_or_ge t F.length with hlt | hge
      · rw [List.getElem_append_left (by omega), List.getElem_append_left hlt]
        exact hkeep (h3 t hlt (by omega))
      · have hte : t = F.length := by simp at ht; omega
        subst hte
        rw [List.getElem_append_right (by omega), List.getElem_append_right (by omega)]
        simp only [h1, Nat.sub_self, List.getElem_cons_zero]
        exact hkeep hr
end
theorem RowV.below {B q : Nat} {w w' : World} {v : Value} {r : List Int} (h : RowV B w v r) (hg : w.grownBy w' (some q)) (hq : q < B) : RowV B w' v r := by
  refine World.ownsRow.kept h hg ?_
  cases hu : v.ownBlock with
  | none => exact .inl rfl
  | some g => exact .inr (fun e => by
      have := (World.ownsRow.lt h g hu).1
      injection e with e; omega)
theorem MatO.below {B q : Nat} {w w' : World} {v : Value} {F : Mx} (h : MatO B w v F) (hg : w.grownBy w' (some q)) (hq : q < B) : MatO B w' v F := by
  obtain ⟨vs, h1, h2, h3⟩ := h
  refine ⟨vs, h1, World.ownsRow.kept h2 hg ?_, fun t a b => (h3 t a b).below hg hq⟩
  cases hu : v.ownBlock with
  | none => exact .inl rfl
  | some g => exact .inr (fun e => by
      have := (World.ownsRow.lt h2 g hu).1
      injection e with e; omega)
end Go.Proofs.YtkjnjmihfonilaaGreatDoor
