/- Part 28 of the proof of the claim: contracts of the functions that it reaches, and plain laws; no condition. -/
import Derived.Test.YtjnpakablgommaaGreatDoorV15
import Derived.Test.YtjnpakablgommaaGreatDoorV26
import Derived.Test.YtjnpakablgommaaGreatDoorV09
import Derived.Test.YtjnpakablgommaaGreatDoorV27
import Derived.Test.YtjnpakablgommaaGreatDoorV16
set_option maxRecDepth 100000
namespace Go.Proofs.YtjnpakablgommaaGreatDoor
open Go.RowKit Go.Sort
def nbL (x : List Int) : List Rat := x.map fun (z : Int) => (z : Rat)
@[simp] theorem nbL_length (x : List Int) : (nbL x).length = x.length := by simp [nbL]
theorem nbL_snoc {x : List Int} {i : Nat} (h : i < x.length) : nbL (x.take i) ++ [(x[i] : Rat)] = nbL (x.take (i + 1)) := by
 unfold nbL
 rw [List.take_succ_eq_append_getElem h, List.map_append]; rfl
set_option maxHeartbeats 2000000 in
theorem numbers_any {w : World} {v : Value} {x : List Int} (hx : RowR w v x) (hl : x.length ≤ 1000000) (h64 : ∀ z ∈ x, I64 z) (hL : Laid w) :
  Calls Tryz.prog 87 #[v] w fun e w' => (∃ u, e = .returned u ∧ SzV w.heap.size w' u (nbL x)) ∧ Ext w w' := by
 obtain ⟨sa, gb, go, cap, rfl, hc, hS⟩ := hx
 have HS := Lib.hid hS
 have H64 := Lib.hid h64
 have HL := Lib.hid hL
 obtain ⟨n, hn⟩ : ∃ n, n = x.length := ⟨_, rfl⟩
 rw [← hn] at hc hl ⊢
 have Hn := Lib.hid hn
 clear hS h64 hL hn
 go_enter Tryz.func87, Tryz.ntmps87
 go_wp2_with fail
 go_loopw [3, 10] (fun u iv wr => ∃ i : Nat, i ≤ n ∧ iv = .int .i64 i ∧ Hid (SzV w.heap.size wr u (nbL (x.take i))) ∧ Ext w wr) (fun _ iv _ => n - (intOf iv).toNat)
 case atStart => exact ⟨0, by omega, by go_num, Lib.hid (SzV.nil _ _), Ext.refl _⟩
 case round =>
  obtain ⟨i, hi, rfl, HV, hE⟩ := hrel
  generalize wr = Y at *
  have hYs := hE.size
  by_cases hlt : i < n
  ·have hii : (i : Int) < (n : Int) := by omega
   have hix : i < x.length := by rw [← Hn.out]; exact hlt
   obtain rfl := HS.out.addr (by simp; omega)
   have k0 := HS.out.cell i (.int .i64 x[i]) (by simp [is, List.getElem?_eq_getElem hix])
   have y0 := hE.cell k0
   have h6 := H64.out _ (List.getElem_mem hix)
   have hof := Lib.hid (fun W (hW : Ext Y W) => ratOf_any (n := x[i]) (d := 1) h6 (by omega) (by omega) (HL.out.ext (hE.trans hW)))
   rw [show ((x[i] : Rat) / ((1 : Int) : Rat)) = (x[i] : Rat) by grind] at hof
   have Hst := Lib.hid (nbL_snoc hix)
   have hlen : (nbL (x.take i)).length = i := by rw [nbL_length, List.length_take]; omega
   have Hlen := Lib.hid hlen
   have Hmin := Lib.hid (show min i x.length = i by omega)
   clear k0 hlen h6
   obtain ⟨r, hr⟩ : ∃ r : Rat, r = (x[i] : Rat) := ⟨_, rfl⟩
   rw [← hr] at hof Hst
   generalize x[i] = z at *
   clear hr hix
   go_wp2_with fail
   refine (hof.out _ (Ext.refl _)).mono ?_
   rintro e Z ⟨rfl, hE2⟩
   have eA := (hE2.alloc (.cells #[I r.num, I r.den] 81)).alloc (.cells #[I r.num, I r.den] 81)
   have hO := two_alloc (Z.alloc (.cells #[I r.num, I r.den] 81)) 81 (I r.num) (I r.den)
   rw [show (Z.alloc (.cells #[I r.num, I r.den] 81)).heap.size = Z.heap.size + 1 by simp] at hO
   have z0 := hO.cell (j := 0) (by simp)
   have z1 := hO.cell (j := 1) (by simp)
   simp only [List.getElem_cons_zero, List.getElem_cons_succ] at z0 z1
   have HVZ := Lib.hid (HV.out.ext eA)
   have hZs := hE2.size
   clear hO hof y0
   go_wp2_with (at_builtin; refine app_rat rfl _ _ 59 Tryz.underlying59 rfl (B := w.heap.size) rfl HVZ.out (b := Z.heap.size + 1) (r := r) rfl z0 z1 (by rw [Hlen.out]; omega) (by simp; omega) ?_; intro g9 cap9 w9 hO9 hB9 _; rw [Hst.out, Hlen.out] at hO9; have HO9 := Lib.hid hO9; have e9 := Below.trans (hE.trans eA) hB9; clear hO9 hB9)
   go_wp2_with fail
   go_roundw
   case rel => exact ⟨i + 1, by omega, by go_num, by rw [Hmin.out]; exact HO9, e9⟩
   case measure => simp [intOf] <;> omega
  ·obtain rfl : i = n := by omega
   have Hres := Lib.hid (show SzV w.heap.size Y _ (nbL x) by have := HV.out; rw [Hn.out, List.take_length] at this; exact this)
   have hii : ¬ (i : Int) < (i : Int) := by omega
   go_wp2_with fail
   go_ret
   exact ⟨⟨_, rfl, Hres.out⟩, hE⟩
theorem tmp_b {f : Nat → Int} (hf : ∀ i, (f i).natAbs ≤ 1000000000000000000) : ∀ k, (sumZ f k).natAbs ≤ k * 1000000000000000000
 | 0 => by simp [sumZ]
 | k + 1 => by
  have h1 := tmp_b hf k
  have h2 := hf k
  rw [sumZ]; omega
theorem nd_b66 {z : Int} (h : z.natAbs ≤ 64000000000000000000) : nd z ≤ 67 := nd_lt2 (E := 66) (by
 have e : (2 : Nat) ^ 66 = 73786976294838206464 := by decide
 rw [e]; omega)
theorem prod_b {a b : Int} (ha : -1000000000 ≤ a ∧ a ≤ 1000000000) (hb : -1000000000 ≤ b ∧ b ≤ 1000000000) : (a * b).natAbs ≤ 1000000000000000000 := by
 rw [Int.natAbs_mul]
 have := Nat.mul_le_mul (show a.natAbs ≤ 1000000000 by omega) (show b.natAbs ≤ 1000000000 by omega)
 omega
theorem getD_bd9 {l : List Int} (h : ∀ z ∈ l, -1000000000 ≤ z ∧ z ≤ 1000000000) (i : Nat) : -1000000000 ≤ l.getD i 0 ∧ l.getD i 0 ≤ 1000000000 := by
 rw [List.getD_eq_getElem?_getD]
 rcases Nat.lt_or_ge i l.length with hi | hi
 ·rw [List.getElem?_eq_getElem hi]; exact h _ (List.getElem_mem hi)
 ·rw [List.getElem?_eq_none hi]; simp
def tmpT (x v : List Int) (j : Nat) : Int := sumZ (fun i => x.getD i 0 * v.getD i 0) j
theorem tmpT_succ (x v : List Int) (j : Nat) : tmpT x v (j + 1) = tmpT x v j + x.getD j 0 * v.getD j 0 := rfl
theorem tmpT_b {x v : List Int} (hx : ∀ z ∈ x, -1000000000 ≤ z ∧ z ≤ 1000000000) (hv : ∀ z ∈ v, -1000000000 ≤ z ∧ z ≤ 1000000000) {j : Nat} (hj : j ≤ 64) : nd (tmpT x v j) ≤ 67 := by
 have := tmp_b (f := fun i => x.getD i 0 * v.getD i 0) (fun i => prod_b (getD_bd9 hx i) (getD_bd9 hv i)) j
 refine nd_b66 ?_
 unfold tmpT
 omega
set_option maxHeartbeats 4000000 in
theorem temper_any {w : World} {P : List Int} {C M : Mx} {sp : Option Addr} {cp : Nat} {sc : Option Addr} {lc cc : Nat} {sm : Option Addr} {lm cm : Nat} {sx : Option Addr} {n cx : Nat} {x : List Int} (h : TmV w P C M M sp cp sc lc cc sm lm cm) (hx : RowR w (.slice sx n cx) x) (hc : chkRow x = 0) (hl : x.length = P.length) (hL : Laid w) :
  Calls Tryz.prog 77 #[tmS P sp cp sc lc cc sm lm cm, .slice sx n cx] w fun e w' => ∃ v', e = .returned v' ∧ IntsV w.heap.size w' v' (tmpL M x) ∧ Ext w w' := by
 obtain ⟨hok, hP, hC, hM⟩ := h
 obtain ⟨psM, hIM⟩ := hok.kM.1
 have hlM := isH_len hIM
 have hp4 := hok.p4
 obtain ⟨hx64, hxb⟩ := chkRow_ok hc
 have Hxb := Lib.hid hxb
 have HsM := Lib.hid hok.sM
 have HrM := Lib.hid (show ∀ r ∈ M, r.length = x.length from fun r hr => by rw [hIM.rect r hr, hl])
 have HL := Lib.hid hL
 obtain ⟨sx', gx, ox, cx', ex, hxc, hSx⟩ := hx
 injection ex with q1 q2 q3
 subst q1 q3
 rw [q2]
 have hnx : x.length ≤ 4 := by omega
 have HSx := Lib.hid hSx
 obtain ⟨sm', gm, om, cm', vs, em, hmc, hvl, hSm, hrm⟩ := hM
 injection em with q4 q5 q6
 subst q4 q6
 rw [q5]
 have hlM4 : M.length ≤ 4 := by omega
 have HS := Lib.hid hSm
 have HV := Lib.hid hvl
 have HR := Lib.hid hrm
 have hX := (Ext.refl w).alloc (.cells #[.slice sp P.length cp, .slice sc lc cc, .slice sm M.length cm] 34)
 have x2 : (w.alloc (.cells #[.slice sp P.length cp, .slice sc lc cc, .slice sm M.length cm] 34)).cell? ⟨w.heap.size, 2, none⟩ = some (.slice sm M.length cm) := by go_simp
 have hsz : w.heap.size ≤ (w.alloc (.cells #[.slice sp P.length cp, .slice sc lc cc, .slice sm M.length cm] 34)).heap.size := by simp
 clear hxb hIM hok hP hC hl hp4 hlM hSm hvl hrm hL hSx q2 q5 hc hx64
 go_enter Tryz.func77, Tryz.ntmps77
 go_wp2_with fail
 generalize w.alloc (.cells #[.slice sp P.length cp, .slice sc lc cc, .slice sm M.length cm] 34) = V at *
 generalize P.length = np at *
 go_loopw [5, 14] (fun out idx wr => ∃ i : Nat, i ≤ M.length ∧ idx = .int .i64 i ∧ Hid (IntsV V.heap.size wr out ((tmpL M x).take i)) ∧ Ext V wr) (fun _ idx _ => M.length - (intOf idx).toNat)
 case atStart => exact ⟨0, by omega, by go_num, Lib.hid (by rw [List.take_zero]; exact IntsV.nil _ _), Ext.refl _⟩
 case round =>
  obtain ⟨i, hi', rfl, hV, hE⟩ := hrel
  generalize wr = X at *
  by_cases hlt : i < M.length
  ·have hii : (i : Int) < (M.length : Int) := by omega
   obtain rfl := HS.out.addr (by rw [HV.out]; omega)
   obtain ⟨sr, br, or, cr, hrow, hrc, hSr⟩ := MatR.row HS.out HV.out HR.out hlt
   obtain ⟨r, hr⟩ : ∃ r, r = M[i] := ⟨_, rfl⟩
   have hrl := HrM.out _ (List.getElem_mem hlt)
   have Hrb := Lib.hid (HsM.out _ (List.getElem_mem hlt))
   have Htk := Lib.hid (show (tmpL M x).take (i + 1) = (tmpL M x).take i ++ [tmpE x M[i]] by
    rw [List.take_succ_eq_append_getElem (by simpa using hlt)]
    simp [tmpL])
   rw [← hr] at hrow hrc hSr hrl Hrb Htk
   have eX := hX.trans hE
   have hrow' := eX.cell hrow
   have HSr := Lib.hid (hSr.ext eX)
   have HSx2 := Lib.hid (HSx.out.ext eX)
   have Hil := Lib.hid (show ((tmpL M x).take i).length = i by rw [List.length_take, tmpL_length]; omega)
   rw [hrl] at hrow' hrc
   clear hrow hSr hr
   obtain ⟨m, hm⟩ : ∃ m, m = x.length := ⟨_, rfl⟩
   rw [← hm] at hrow' hrc hxc hnx ⊢
   have Hm := Lib.hid hm
   have Hrl := Lib.hid (hrl.trans hm.symm)
   clear hm hrl
   go_wp2_with fail
   go_loopw [8, 20] (fun sv jdx wr => ∃ j : Nat, j ≤ m ∧ jdx = .int .i64 j ∧ sv = I (tmpT x r j) ∧ Ext X wr) (fun _ jdx _ => m - (intOf jdx).toNat)
   case atStart => exact ⟨0, by omega, by go_num, (show I 0 = _ by unfold I S; rw [itoa_zero]).symm, Ext.refl _⟩
   case round =>
    obtain ⟨j, hj, rfl, rfl, hE2⟩ := hrel
    generalize wr = Y at *
    by_cases hjl : j < m
    ·have hji : (j : Int) < (m : Int) := by omega
     have hj1 : j < x.length := by rw [← Hm.out]; exact hjl
     have hj2 : j < r.length := by rw [Hrl.out]; exact hjl
     obtain ⟨a, ha⟩ : ∃ a, a = x.getD j 0 := ⟨_, rfl⟩
     obtain ⟨b, hb⟩ : ∃ b, b = r.getD j 0 := ⟨_, rfl⟩
     have Hts := Lib.hid (tmpT_succ x r j)
     rw [← ha, ← hb] at Hts
     have hca := hE2.cell (HSx2.out.cell j (.int .i64 a) (by rw [ha, getD_get hj1]; exact is_get hj1))
     have hcb := hE2.cell (HSr.out.cell j (.int .i64 b) (by rw [hb, getD_get hj2]; exact is_get hj2))
     obtain rfl := HSx.out.addr (by simp; omega)
     obtain rfl := HSr.out.addr (by simp; omega)
     have hab := getD_bd9 Hxb.out j
     have hbb := getD_bd9 Hrb.out j
     rw [← ha] at hab
     rw [← hb] at hbb
     have n1 := tmpT_b Hxb.out Hrb.out (j := j) (by omega)
     have n2 := nd_b66 (z := a * b) (by have := prod_b hab hbb; omega)
     have n3 := nd_b66 (z := a) (by omega)
     have n4 := nd_b66 (z := b) (by omega)
     obtain ⟨s, hs⟩ : ∃ s, s = tmpT x r j := ⟨_, rfl⟩
     rw [← hs] at n1 Hts ⊢
     have eY := eX.trans hE2
     have HeY := Lib.hid eY
     have c1 := Lib.hid (quietC (w := Y) (fun W hW => wholeOf_any (n := a) (w := W) (by omega) (by omega) (HL.out.ext (HeY.out.trans hW))))
     have c2 := Lib.hid (quietC (w := Y) (fun W hW => wholeOf_any (n := b) (w := W) (by omega) (by omega) (HL.out.ext (HeY.out.trans hW))))
     have c3 := Lib.hid (quietC (w := Y) (fun W hW => Mul_any (a := a) (b := b) (w := W) (by unfold LIM; omega) (HL.out.ext (HeY.out.trans hW))))
     have c4 := Lib.hid (quietC (w := Y) (fun W hW => Add_any (a := s) (b := a * b) (w := W) (by unfold LIM; omega) (by unfold LIM; omega) (HL.out.ext (HeY.out.trans hW))))
     have k2 := cell_regrown hcb
     clear hab hbb n1 n2 n3 n4 hs ha hb eY hj1 hj2
     go_wp2_with fail
     refine wp_region_quiet_tail 10 (by kernel_rfl) (by kernel_rfl) ?_
     simp only [List.take_succ_cons, List.take_zero, List.drop_succ_cons, List.drop_zero]
     repeat (quiet_step (first | exact c1.out _ _ | exact c2.out _ _ | exact c3.out _ _ | exact c4.out _ _))
     refine wpQuiet_nil ?_
     intro _ hw'
     obtain ⟨⟨dq, osq⟩, hw''⟩ := hw'
     subst hw''
     have hE5 := hE2.trans (ext_regrown Y dq osq)
     clear c1 c2 c3 c4 k2
     generalize grow (redrawn Y dq) osq = w5 at *
     go_wp2_with fail
     go_roundw
     case rel => exact ⟨j + 1, by omega, by go_num, by rw [Hts.out], hE5⟩
     case measure => simp [intOf] <;> omega
    ·obtain rfl : j = m := by omega
     have Hte := Lib.hid (show tmpT x r j = tmpE x r by rw [Hm.out]; rfl)
     rw [Hte.out]
     have HVY := Lib.hid (hV.out.ext hE2)
     have hYs := (hE.trans hE2).size
     have hEY := hE.trans hE2
     obtain ⟨z, hz⟩ : ∃ z, z = tmpE x r := ⟨_, rfl⟩
     rw [← hz] at Htk ⊢
     clear hV hz
     go_wp2_with (at_builtin; refine app_ints rfl _ _ rfl rfl (HVY.out.ext ((Ext.refl _).alloc _)) rfl (b := Y.heap.size) (z := z) (by go_simp) (by rw [Hil.out]; omega) (by simp; omega) ?_; intro gg cap2 w8 hO8 hB8 hG8; rw [Hil.out, ← Htk.out] at hO8; rw [Hil.out])
     have hE8 : Ext V w8 := Below.trans (hEY.alloc (.cells #[I z] 79)) hB8
     have HO8 := Lib.hid hO8
     clear hG8 hB8 hO8
     go_wp2_with fail
     go_roundw
     case rel => exact ⟨i + 1, by omega, by go_num, HO8, hE8⟩
     case measure => simp [intOf] <;> omega
  ·obtain rfl : i = M.length := by omega
   have HF := Lib.hid (show IntsV V.heap.size X u5 (tmpL M x) by have := hV.out; rw [List.take_of_length_le (by simp)] at this; exact this)
   go_wp2_with fail
   go_ret
   exact ⟨_, rfl, HF.out.mono hsz, hX.trans hE⟩
theorem bgE_ok {n : Nat} {x : List Int} (h : bgE n x = 0) : chkRow x = 0 ∧ x.length = n := by
 unfold bgE at h
 split at h
 ·rename_i h1
  split at h
  ·rename_i h2; exact ⟨h1, h2⟩
  ·cases h
 ·rename_i h1; exact absurd h h1
def TpPost (w : World) (np : Nat) (M : Mx) (x : List Int) (e : Ending) (w' : World) : Prop :=
 Ext w w' ∧ ((bgE np x = 0 ∧ smallB (tmpL M x) = true ∧ ∃ v, e = .returned (.tuple #[v, .int .i64 0]) ∧ RowV w.heap.size w' v (tmpL M x)) ∨ (bgE np x = 0 ∧ smallB (tmpL M x) = false ∧ e = .returned (.tuple #[.slice none 0 0, .int .i64 4])) ∨ (bgE np x ≠ 0 ∧ e = .returned (.tuple #[.slice none 0 0, .int .i64 (bgE np x)])))
theorem tmpL_nd {M : Mx} {x : List Int} (hx : ∀ z ∈ x, -1000000000 ≤ z ∧ z ≤ 1000000000) (hM : SmK M) (hl : x.length ≤ 64) : ∀ z ∈ tmpL M x, nd z ≤ 67 := fun z hz => by
 obtain ⟨v, hv, rfl⟩ := List.mem_map.1 hz
 exact tmpT_b hx (hM v hv) hl
set_option maxHeartbeats 4000000 in
theorem Temper_any {w : World} {P : List Int} {C M : Mx} {sp : Option Addr} {cp : Nat} {sc : Option Addr} {lc cc : Nat} {sm : Option Addr} {lm cm : Nat} {sx : Option Addr} {n cx : Nat} {x : List Int} (h : TmV w P C M M sp cp sc lc cc sm lm cm) (hx : RowR w (.slice sx n cx) x) (hL : Laid w) :
  Calls Tryz.prog 20 #[tmS P sp cp sc lc cc sm lm cm, .slice sx n cx] w (TpPost w P.length M x) := by
 have hbe := fun W b (hW : Ext w W) (hc : W.cell? ⟨b, 0, none⟩ = some (.slice sx n cx)) => begin1_any (b := b) (h.ext hW) hc (hx.ext hW) (hL.ext hW)
 have hX := (Ext.refl w).alloc (.cells #[.slice sp P.length cp, .slice sc lc cc, .slice sm lm cm] 34)
 have x0 : (w.alloc (.cells #[.slice sp P.length cp, .slice sc lc cc, .slice sm lm cm] 34)).cell? ⟨w.heap.size, 0, none⟩ = some (.slice sp P.length cp) := by go_simp
 have x1 : (w.alloc (.cells #[.slice sp P.length cp, .slice sc lc cc, .slice sm lm cm] 34)).cell? ⟨w.heap.size, 1, none⟩ = some (.slice sc lc cc) := by go_simp
 have x2 : (w.alloc (.cells #[.slice sp P.length cp, .slice sc lc cc, .slice sm lm cm] 34)).cell? ⟨w.heap.size, 2, none⟩ = some (.slice sm lm cm) := by go_simp
 have hsz : w.heap.size ≤ (w.alloc (.cells #[.slice sp P.length cp, .slice sc lc cc, .slice sm lm cm] 34)).heap.size := by simp
 have xb : ((w.alloc (.cells #[.slice sp P.length cp, .slice sc lc cc, .slice sm lm cm] 34)).alloc (.cells #[.slice sx n cx] 30)).cell? ⟨w.heap.size + 1, 0, none⟩ = some (.slice sx n cx) := by go_simp
 by_cases hb : bgE P.length x = 0
 ·obtain ⟨hcx, hlx⟩ := bgE_ok hb
  obtain ⟨hx64, hxb⟩ := chkRow_ok hcx
  obtain ⟨psM, hIM⟩ := h.ok.kM.1
  have hlM := isH_len hIM
  have hp4 := h.ok.p4
  have hte := Lib.hid (fun W (hW : Ext w W) => temper_any (h.ext hW) (hx.ext hW) hcx hlx (hL.ext hW))
  rw [hb] at hbe
  have Hbe := Lib.hid hbe
  have Hnd := Lib.hid (tmpL_nd hxb h.ok.sM hx64)
  have HL := Lib.hid hL
  have Hb := Lib.hid hb
  have hlen : (tmpL M x).length ≤ 4 := by rw [tmpL_length]; omega
  clear hcx hlx hx64 hxb hIM hlM hp4 hbe hb h hx hL
  obtain ⟨l, hl⟩ : ∃ l, l = tmpL M x := ⟨_, rfl⟩
  rw [← hl] at hte Hnd hlen
  have Hl := Lib.hid hl
  clear hl
  go_enter Tryz.func20, Tryz.ntmps20
  go_wp2_with fail
  refine (Hbe.out _ (w.heap.size + 1) (hX.alloc (.cells #[.slice sx n cx] 30)) xb).mono ?_
  generalize w.alloc (.cells #[.slice sp P.length cp, .slice sc lc cc, .slice sm lm cm] 34) = V at *
  rintro e X ⟨rfl, hE1⟩
  have y0 := hE1.cell (((Ext.refl V).alloc (.cells #[.slice sx n cx] 30)).cell x0)
  have y1 := hE1.cell (((Ext.refl V).alloc (.cells #[.slice sx n cx] 30)).cell x1)
  have y2 := hE1.cell (((Ext.refl V).alloc (.cells #[.slice sx n cx] 30)).cell x2)
  have e1 := (hX.alloc (.cells #[.slice sx n cx] 30)).trans hE1
  clear x0 x1 x2 xb Hbe hX hE1
  go_wp2_with fail
  refine (hte.out _ e1).mono ?_
  rintro e X2 ⟨v1, rfl, hv1, hE2⟩
  obtain ⟨ga, gb, cap, rfl, hcap, hS⟩ := hv1.sl
  have HS := Lib.hid hS
  have e2 := e1.trans hE2
  clear hv1 hS hte hE2 y0 y1 y2
  go_wp2_with fail
  go_loopw [7, 23] (fun out idx wr => ∃ i : Nat, i ≤ l.length ∧ idx = .int .i64 i ∧ Hid (RowV X2.heap.size wr out (l.take i)) ∧ Hid (∀ j (h : j < l.length), j < i → grt l[j] = false) ∧ Ext X2 wr) (fun _ idx _ => l.length - (intOf idx).toNat)
  case atStart => exact ⟨0, by omega, by go_num, Lib.hid (by rw [List.take_zero]; exact RowV.nil _ _), Lib.hid (fun j _ h => by omega), Ext.refl _⟩
  case round =>
   obtain ⟨i, hi', rfl, HO, Hz, hE⟩ := hrel
   generalize wr = Y at *
   by_cases hlt : i < l.length
   ·have hii : (i : Int) < (l.length : Int) := by omega
    obtain ⟨z, hz⟩ : ∃ z, z = l[i] := ⟨_, rfl⟩
    have hc := hE.cell (HS.out.cell i (I z) (by rw [hz]; simp [ss, hlt]))
    rw [Nat.zero_add] at hc
    obtain rfl := HS.out.addr (by simp; omega)
    have hsm := Lib.hid (wholeSmall_any (z := z) (w := Y) (by have := Hnd.out z (by rw [hz]; exact List.getElem_mem hlt); unfold LIM; omega) (HL.out.ext (e2.trans hE)))
    have Hzz := Lib.hid hz
    have Hil := Lib.hid (show (l.take i).length = i by rw [List.length_take]; omega)
    have Htk := Lib.hid (show l.take (i + 1) = l.take i ++ [z] by rw [List.take_succ_eq_append_getElem hlt, hz])
    have hYs := hE.size
    cases hgz : grt z
    ·have hzb : -1000000000 ≤ z ∧ z ≤ 1000000000 := by
      unfold grt at hgz; have := of_decide_eq_false hgz; omega
     have hin : inI64 z = true := decide_eq_true (by omega)
     rw [hin, if_pos rfl] at hsm
     obtain ⟨hy1, hy2⟩ := hzb
     have Hgz := Lib.hid hgz
     clear hin hgz hz
     go_wp2_with fail
     refine hsm.out.mono ?_
     rintro e W ⟨rfl, hW⟩
     have HOW := Lib.hid (HO.out.ext hW)
     have hWs := (hE.trans hW).size
     have hEW := hE.trans hW
     clear HO hsm hW
     go_wp2_with (at_builtin; refine app_int rfl _ _ 30 Tryz.underlying30 rfl rfl (HOW.out.ext ((Ext.refl _).alloc _)) rfl (b := W.heap.size) (z := z) (by go_simp) (by rw [Hil.out]; omega) (by simp; omega) ?_; intro gg cap2 w8 hO8 hB8 hG8; rw [Hil.out] at hO8 ⊢; rw [← Htk.out] at hO8)
     have hE8 : Ext X2 w8 := Below.trans (hEW.alloc (.cells #[.int .i64 z] 3)) hB8
     have HO8 := Lib.hid hO8
     clear hG8 hB8 hO8
     go_wp2_with fail
     go_roundw
     case rel => exact ⟨i + 1, by omega, by go_num, HO8, Lib.hid (fun j h hj => by
      by_cases e : j = i
      ·subst e; rw [← Hzz.out]; exact Hgz.out
      ·exact Hz.out j h (by omega)), hE8⟩
     case measure => simp [intOf] <;> omega
    ·have Hno := Lib.hid (small_not hlt (by rw [← hz]; exact hgz))
     have hzb : 1000000000 < z ∨ z < -1000000000 := by
      unfold grt at hgz; exact of_decide_eq_true hgz
     clear hgz hz
     have hfin : ∀ W, Ext Y W → TpPost w P.length M x (.returned (.tuple #[.slice none 0 0, .int .i64 4])) W := fun W hW => ⟨(e2.trans hE).trans hW, .inr (.inl ⟨Hb.out, by rw [← Hl.out]; exact Hno.out, rfl⟩)⟩
     have Hfin := Lib.hid hfin
     clear hfin
     cases hin : inI64 z
     ·rw [hin, if_neg (by decide)] at hsm
      clear hin hzb
      go_wp2_with fail
      refine hsm.out.mono ?_
      rintro e W ⟨rfl, hW⟩
      go_wp2_with fail
      go_ret2
      exact Hfin.out _ hW
     ·rw [hin, if_pos rfl] at hsm
      clear hin
      rcases hzb with hzb | hzb
      ·go_wp2_with fail
       refine hsm.out.mono ?_
       rintro e W ⟨rfl, hW⟩
       go_wp2_with fail
       go_ret2
       exact Hfin.out _ hW
      ·have hzc : z ≤ 1000000000 := by omega
       go_wp2_with fail
       refine hsm.out.mono ?_
       rintro e W ⟨rfl, hW⟩
       go_wp2_with fail
       go_ret2
       exact Hfin.out _ hW
   ·obtain rfl : i = l.length := by omega
    have HF := Lib.hid (show RowV X2.heap.size Y u7 l by have := HO.out; rw [List.take_length] at this; exact this)
    have Hs := Lib.hid (show smallB l = true from small_yes (fun j hj => Hz.out j hj hj))
    have hs2 := e2.size
    go_wp2_with fail
    go_ret2
    exact ⟨e2.trans hE, .inl ⟨Hb.out, by rw [← Hl.out]; exact Hs.out, _, rfl, by rw [← Hl.out]; exact HF.out.mono hs2⟩⟩
 ·have Hbe := Lib.hid hbe
  obtain ⟨z, hz⟩ : ∃ z, z = bgE P.length x := ⟨_, rfl⟩
  have Hfin := Lib.hid (show ∀ W, Ext w W → TpPost w P.length M x (.returned (.tuple #[.slice none 0 0, .int .i64 z])) W from fun W hW => ⟨hW, .inr (.inr ⟨hb, by rw [hz]⟩)⟩)
  rw [← hz] at hbe hb
  have Hbe := Lib.hid hbe
  have h2 : (z == 0) = false := beq_eq_false_iff_ne.2 hb
  have h3 : (z != 0) = true := by simp [bne, h2]
  clear hz h hx hL hbe
  go_enter Tryz.func20, Tryz.ntmps20
  go_wp2_with fail
  refine (Hbe.out _ (w.heap.size + 1) (hX.alloc (.cells #[.slice sx n cx] 30)) xb).mono ?_
  generalize w.alloc (.cells #[.slice sp P.length cp, .slice sc lc cc, .slice sm lm cm] 34) = V at *
  rintro e X ⟨rfl, hE1⟩
  have e1 := (hX.alloc (.cells #[.slice sx n cx] 30)).trans hE1
  go_wp2_with fail
  go_ret2
  exact Hfin.out _ e1
theorem mzE_bg {n : Nat} {x : List Int} (h : mzE n x = 0) (hn : n ≤ 64) : bgE n x = 0 := by
 obtain ⟨h1, h2⟩ := mzE_zero h
 have hc : chkRow x = 0 := by
  unfold chkRow
  rw [if_neg (by omega), if_neg]
  intro h3
  rw [List.any_eq_true] at h3
  obtain ⟨z, hz, hg⟩ := h3
  have := h2 z hz
  unfold grt at hg
  simp at hg
  omega
 unfold bgE
 rw [if_pos hc, if_pos h1]
def tuE (np : Nat) (M : Mx) (x : List Int) : Int := if mzE np x = 0 then (if smallB (tmpL M x) = true then 0 else 4) else mzE np x
def tuL (np : Nat) (M : Mx) (G : List (List Rat)) (x : List Int) : List Rat := cmbQ G (nbL (tmpL M x)) np
@[simp] theorem tuL_length (np : Nat) (M : Mx) (G : List (List Rat)) (x : List Int) : (tuL np M G x).length = np := by simp [tuL]
def TePost (w : World) (np : Nat) (M : Mx) (G : List (List Rat)) (x : List Int) (e : Ending) (w' : World) : Prop :=
 Ext w w' ∧ ((tuE np M x ≠ 0 ∧ e = .returned (.tuple #[.slice none 0 0, .int .i64 (tuE np M x)])) ∨ (tuE np M x = 0 ∧ ∃ g, e = .returned (.tuple #[slv g np np, .int .i64 0]) ∧ w.heap.size ≤ g ∧ SzO w.heap.size w' g (tuL np M G x)))
theorem nbL_nd {x : List Int} {E : Nat} (hx : ∀ z ∈ x, -1000000000 ≤ z ∧ z ≤ 1000000000) (hE : 10 ≤ E) : ∀ r ∈ nbL x, NdQ E r := fun r hr => by
 obtain ⟨z, hz, rfl⟩ := List.mem_map.1 hr
 refine NdQ.of_int ?_
 have := hx z hz
 exact Nat.le_trans (nDigits_le (u := z.natAbs) (k := 10) (by omega) (by omega)) hE
theorem tuL_nd {np : Nat} {M : Mx} {G : List (List Rat)} {x : List Int} (hG : ∀ l ∈ G, ShQ l) (hx : smallB (tmpL M x) = true) (hk : G.length ≤ 4) : ∀ r ∈ tuL np M G x, NdQ 200 r := fun r hr => by
 unfold tuL cmbQ at hr
 obtain ⟨c, _, rfl⟩ := List.mem_map.1 hr
 refine (sumR_nd (E := 40) _ fun k _ => cmbF_nd (E := 30) (F := 10) (fun s hs => shQ_nd (hG s hs) (by omega)) (nbL_nd (smallB_iff.1 hx) (by omega)) (by omega) (by omega)).mono ?_
 have : G.length * 41 ≤ 4 * 41 := Nat.mul_le_mul_right _ hk
 omega
set_option maxHeartbeats 4000000 in
theorem tempered_any {w : World} {P : List Int} {C M : Mx} {G : List (List Rat)} {sp : Option Addr} {cp : Nat} {sc : Option Addr} {lc cc : Nat} {sm : Option Addr} {lm cm : Nat} {sg : Option Addr} {lg cg : Nat} {sx : Option Addr} {nx cx : Nat} {x : List Int} (h : TuV w P C M G sp cp sc lc cc sm lm cm sg lg cg) (hx : RowR w (.slice sx nx cx) x) (hL : Laid w) :
  Calls Tryz.prog 88 #[tuS P sp cp sc lc cc sm lm cm sg lg cg, .slice sx nx cx] w (TePost w P.length M G x) := by
 have hck := Lib.hid (fun W (hW : Ext w W) => tuCheck_any (h.ext hW) (hL.ext hW))
 obtain ⟨hT, hG, hln, hcl, hsh⟩ := h
 have hm4 := hT.m4
 have hp4 := hT.ok.p4
 have hmc := Lib.hid (hT.mchk hx)
 have hte := Lib.hid (fun W (hW : Ext w W) => Temper_any (hT.ext hW) (hx.ext hW) (hL.ext hW))
 have hX := (Ext.refl w).alloc (.cells #[.slice sp P.length cp, .slice sc lc cc, .slice sm lm cm, .slice sg lg cg] 67)
 have x0 : (w.alloc (.cells #[.slice sp P.length cp, .slice sc lc cc, .slice sm lm cm, .slice sg lg cg] 67)).cell? ⟨w.heap.size, 0, none⟩ = some (.slice sp P.length cp) := by go_simp
 have x1 : (w.alloc (.cells #[.slice sp P.length cp, .slice sc lc cc, .slice sm lm cm, .slice sg lg cg] 67)).cell? ⟨w.heap.size, 1, none⟩ = some (.slice sc lc cc) := by go_simp
 have x2 : (w.alloc (.cells #[.slice sp P.length cp, .slice sc lc cc, .slice sm lm cm, .slice sg lg cg] 67)).cell? ⟨w.heap.size, 2, none⟩ = some (.slice sm lm cm) := by go_simp
 have x3 : (w.alloc (.cells #[.slice sp P.length cp, .slice sc lc cc, .slice sm lm cm, .slice sg lg cg] 67)).cell? ⟨w.heap.size, 3, none⟩ = some (.slice sg lg cg) := by go_simp
 obtain ⟨y, hy⟩ : ∃ y, y = mzE P.length x := ⟨_, rfl⟩
 rw [← hy] at hmc
 have Hy := Lib.hid hy
 clear hy
 by_cases hy0 : y = 0
 ·have h9 : mzE P.length x = 0 := by rw [← Hy.out]; exact hy0
  have hp64 : P.length ≤ 64 := Nat.le_trans hp4 (by decide)
  have hbg := mzE_bg (n := P.length) (x := x) h9 hp64
  have htu : tuE P.length M x = if smallB (tmpL M x) = true then 0 else 4 := by unfold tuE; rw [if_pos h9]
  have Hbg := Lib.hid hbg
  have Htu := Lib.hid htu
  have HL := Lib.hid hL
  have Hnum := Lib.hid (fun W v (hW : Ext w W) (hv : RowR W v (tmpL M x)) (hs : smallB (tmpL M x) = true) => numbers_any (w := W) (v := v) hv (by rw [tmpL_length]; omega) (fun z hz => by have := smallB_iff.1 hs z hz; unfold I64; omega) (hL.ext hW))
  have Hcmb := Lib.hid (fun W v (hW : Ext w W) (hv : SzR W v (nbL (tmpL M x))) (hs : smallB (tmpL M x) = true) => combine_any (pa := sp) (cp := cp) (hG.ext hW) hv hcl (by rw [nbL_length, tmpL_length]; omega) (fun s hs => shQ_nd (hsh s hs) (by omega)) (nbL_nd (smallB_iff.1 hs) (by omega)) (by omega) (by omega) (hL.ext hW))
  have hdef : tuL P.length M G x = cmbQ G (nbL (tmpL M x)) P.length := rfl
  rw [← hdef] at Hcmb
  subst hy0
  clear h9 hp64 hbg htu hdef hT hG hln hcl hsh hm4 hp4 hx hL
  go_enter Tryz.func88, Tryz.ntmps88
  go_wp2_with fail
  refine (hck.out _ hX).mono ?_
  rintro e X1 ⟨rfl, hE1⟩
  have e1 := hX.trans hE1
  replace x0 := hE1.cell x0
  replace x1 := hE1.cell x1
  replace x2 := hE1.cell x2
  replace x3 := hE1.cell x3
  clear hck hX hE1
  go_wp2_with fail
  refine (hmc.out _ e1).mono ?_
  rintro e X2 ⟨rfl, hE2⟩
  have e2 := e1.trans hE2
  replace x0 := hE2.cell x0
  replace x1 := hE2.cell x1
  replace x2 := hE2.cell x2
  replace x3 := hE2.cell x3
  clear hmc e1 hE2
  go_wp2_with fail
  refine (hte.out _ e2).mono ?_
  rintro e X3 ⟨hE3, (⟨_, hs, v, rfl, hv⟩ | ⟨_, hs, rfl⟩ | ⟨q, _⟩)⟩
  ·have e3 := e2.trans hE3
   have Hs := Lib.hid hs
   have H0 := Lib.hid (show tuE P.length M x = 0 by rw [Htu.out, if_pos hs])
   have Hv := Lib.hid hv
   obtain ⟨va, vl, vc, rfl⟩ := RowV.slice hv
   replace x3 := hE3.cell x3
   have hw3 := e3.size
   clear hv hs hte e2 hE3 x0 x1 x2
   go_wp2_with fail
   have d0 : Ext X3 X3.drew := (Ext.refl X3).drew
   refine wp_region_held_tail (S := fun W => Ext X3 W) 6 (by kernel_rfl) (by simp) ?_
   intro inv
   generalize X3.drew = X4 at *
   refine wpAnyLH_take (i := 0) (v := .slice sp P.length cp) rfl (by kernel_rfl) (fun _ _ _ h => h) (.inl ⟨by rfl, fun W hW => by go_simp⟩) d0 inv ?_
   intro inv
   go_simp
   refine wpAnyLH_take (i := 1) (v := .pointer (some ⟨w.heap.size, 3, none⟩)) rfl (by kernel_rfl) (fun _ _ _ h => h) (.inl ⟨by rfl, fun W hW => by go_simp⟩) d0 inv ?_
   intro inv
   go_simp
   refine wpAnyLH_take (i := 2) (v := .slice sg lg cg) rfl (by kernel_rfl) (fun _ _ _ h => h) (.inl ⟨by rfl, fun W hW => by have z0 := hW.cell x3; go_simp⟩) d0 inv ?_
   intro inv
   go_simp
   refine wpAnyLH_take (i := 3) (v := .slice va vl vc) rfl (by kernel_rfl) (fun _ _ _ h => h) (.inl ⟨by rfl, fun W hW => by go_simp⟩) d0 inv ?_
   intro inv
   go_simp
   refine wpAnyLH_oneI (i := 4) rfl (by kernel_rfl) inv (fun inv K0 hK0 => ?_)
   go_simp
   refine (Hnum.out _ _ (e3.trans d0) (Hv.out.row.ext d0) Hs.out).mono ?_
   rintro e X5 ⟨⟨u, rfl, hu⟩, hG1⟩
   have d1 := d0.trans hG1
   have Hu := Lib.hid hu.read
   obtain ⟨ua, ul, uc, rfl⟩ := hu.slice
   refine hK0 _ _ d1 ?_
   clear hK0 hu
   refine wpAnyLH_oneI (i := 5) rfl (by kernel_rfl) inv (fun inv K0 hK0 => ?_)
   go_simp
   refine (Hcmb.out _ _ (e3.trans d1) Hu.out Hs.out).mono ?_
   rintro e X6 ⟨⟨gq, rfl, hgq, hO⟩, hG2⟩
   have d2 := d1.trans hG2
   have HO := Lib.hid hO
   refine hK0 _ _ d2 ?_
   clear hK0 hO
   refine wpAnyLH_end (by kernel_rfl) ?_
   have hg9 : w.heap.size ≤ gq := by have := d1.size; omega
   have HO9 := Lib.hid (HO.out.mono (B' := w.heap.size) (by have := d1.size; omega))
   have e9 := e3.trans d2
   clear HO inv d0 d1 d2 hG1 hG2 hgq x3 Hnum Hcmb Hu Hv
   go_wp2_with fail
   go_ret2
   exact ⟨e9, .inr ⟨H0.out, gq, rfl, hg9, HO9.out⟩⟩
  ·have H4 := Lib.hid (show tuE P.length M x = 4 by rw [Htu.out, hs]; rfl)
   clear hs
   go_wp2_with fail
   go_ret2
   exact ⟨e2.trans hE3, .inl ⟨by rw [H4.out]; decide, ret_val (congrArg (fun z => Value.tuple #[.slice none 0 0, .int .i64 z]) H4.out.symm)⟩⟩
  ·exact absurd Hbg.out q
 ·have htu : tuE P.length M x = y := by unfold tuE; rw [← Hy.out, if_neg hy0]
  have Htu := Lib.hid htu
  have h2 : (y == 0) = false := beq_eq_false_iff_ne.2 hy0
  have h3 : (y != 0) = true := by simp [bne, h2]
  have Hy0 := Lib.hid hy0
  clear hy0 htu hT hG hln hcl hsh hm4 hp4 hx hL
  go_enter Tryz.func88, Tryz.ntmps88
  go_wp2_with fail
  refine (hck.out _ hX).mono ?_
  rintro e X1 ⟨rfl, hE1⟩
  have e1 := hX.trans hE1
  replace x0 := hE1.cell x0
  clear hck hX hE1
  go_wp2_with fail
  refine (hmc.out _ e1).mono ?_
  rintro e X2 ⟨rfl, hE2⟩
  have e2 := e1.trans hE2
  clear hmc e1 hE2
  go_wp2_with fail
  go_ret2
  exact ⟨e2, .inl ⟨by rw [Htu.out]; exact Hy0.out, ret_val (congrArg (fun z => Value.tuple #[.slice none 0 0, .int .i64 z]) Htu.out.symm)⟩⟩
theorem tuE_zero {np : Nat} {M : Mx} {x : List Int} (h : tuE np M x = 0) : mzE np x = 0 ∧ smallB (tmpL M x) = true := by
 unfold tuE at h
 split at h
 ·rename_i h1
  split at h
  ·rename_i h2; exact ⟨h1, h2⟩
  ·cases h
 ·rename_i h1; exact absurd h h1
theorem tuResult_yes {w : World} {pa : Option Addr} {np cp : Nat} {v : Value} {l : List Rat} (h0 : szE l = 0) (hpc : ∀ W, Ext w W → Calls Tryz.prog 48 #[.slice pa np cp] W fun e w' => e = .returned (.int .i64 0) ∧ Ext W w') (hs : SzR w v l) (hl : l.length = np) (hb : ∀ r ∈ l, NdQ 400 r) (h1000 : np ≤ 1000000) (hL : Laid w) :
  Calls Tryz.prog 85 #[.slice pa np cp, v] w fun e w' => e = .returned (.tuple #[v, .int .i64 0]) ∧ Ext w w' := by
 have h := tuResult_any hpc hs hl hb h1000 hL (cp := cp)
 unfold resV at h
 rw [if_pos h0] at h; exact h
theorem tuResult_no {w : World} {pa : Option Addr} {np cp : Nat} {v : Value} {l : List Rat} (h0 : szE l ≠ 0) (hpc : ∀ W, Ext w W → Calls Tryz.prog 48 #[.slice pa np cp] W fun e w' => e = .returned (.int .i64 0) ∧ Ext W w') (hs : SzR w v l) (hl : l.length = np) (hb : ∀ r ∈ l, NdQ 400 r) (h1000 : np ≤ 1000000) (hL : Laid w) :
  Calls Tryz.prog 85 #[.slice pa np cp, v] w fun e w' => e = .returned (.tuple #[.slice none 0 0, .int .i64 4]) ∧ Ext w w' := by
 have h := tuResult_any hpc hs hl hb h1000 hL (cp := cp)
 unfold resV at h
 rw [if_neg h0] at h; exact h
end Go.Proofs.YtjnpakablgommaaGreatDoor
namespace Go.Proofs.YtjnpakablgommaaGreatDoor
open Go Go.Sort
theorem countP_step {p p' : Nat → Bool} {i : Nat} (hp : p i = true) (hp' : p' i = false) (h : ∀ j, j ≠ i → p' j = p j) : ∀ (l : List Nat), l.Nodup → i ∈ l → l.countP p' + 1 = l.countP p
 | [], _, hi => by cases hi
 | x :: l, hn, hi => by
  rw [List.nodup_cons] at hn
  by_cases e : x = i
  ·subst e
   rw [List.countP_cons_of_neg (by rw [hp']; decide), List.countP_cons_of_pos hp]
   have : l.countP p' = l.countP p := List.countP_congr (fun j hj => by rw [h j (fun h2 => hn.1 (h2 ▸ hj))])
   omega
  ·have hi2 : i ∈ l := by rcases List.mem_cons.1 hi with h2 | h2; exact absurd h2.symm e; exact h2
   have ih := countP_step hp hp' h l hn.2 hi2
   rw [List.countP_cons, List.countP_cons, h x e]
   omega
def unl (n : Nat) (listed : Array Bool) : Nat := (List.range n).countP fun j => !(listed.getD j true)
theorem unl_set {n i : Nat} {listed : Array Bool} (hin : i < n) (hi : listed.getD i true = false) : unl n (listed.setIfInBounds i true) + 1 = unl n listed := by
 refine countP_step (i := i) (by rw [hi]; rfl) ?_ (fun j hj => by rw [getD_set_ne true (Ne.symm hj)]) _ List.nodup_range (List.mem_range.2 hin)
 have hlt : i < listed.size := by
  rcases Nat.lt_or_ge i listed.size with h | h
  ·exact h
  ·simp [Array.getElem?_eq_none h] at hi
 simp [hlt]
theorem unl_zero {n : Nat} {listed : Array Bool} (h : unl n listed = 0) {j : Nat} (hj : j < n) : listed.getD j true = true := by
 have := List.countP_eq_zero.1 h j (List.mem_range.2 hj)
 simpa using this
theorem unl_all (n m : Nat) (h : n ≤ m) : unl n (Array.replicate m false) = n := by
 unfold unl
 have : (List.range n).countP (fun j => !((Array.replicate m false).getD j true)) = (List.range n).length := List.countP_eq_length.2 (fun j hj => by
  have := List.mem_range.1 hj
  have hlt : j < m := by omega
  simp [hlt])
 rw [this, List.length_range]
structure Frm (D : Nat → Nat) (n : Nat) (a0 a : Act) : Prop where
 size : a.tmps.size = a0.tmps.size
 other : ∀ t, (∀ j, j < n → D j ≠ t) → a.tmps[t]? = a0.tmps[t]?
 defers : a.defers = a0.defers
theorem Frm.refl (D : Nat → Nat) (n : Nat) (a : Act) : Frm D n a a := ⟨rfl, fun _ _ => rfl, rfl⟩
section
variable {P : Program} {ops : Array Oper} {md : Region.Mode} {Q : Exit → Act → World → Prop} {S : World → Prop}
theorem wpAnyLH_inv {n : Nat} {L : Array Bool → Act → World → Prop} {D : Nat → Nat} {G : Nat → Value → World → Prop} {a0 : Act}
  (hD : ∀ i j, i < n → j < n → D i = D j → i = j) (hsz : ∀ i, i < n → D i < a0.tmps.size)
  (hdep : ∀ i, i < n → ∀ o, ops[i]? = some o → ∀ e ∈ o.after, Region.binds md e = true → e.on < i)
  (hs : Region.sinkB md ops n = true) (hc : Region.chainB md ops n = true) (hn : n < ops.size)
  (hG : ∀ j v w w', G j v w → Ext w w' → G j v w')
  (hop : ∀ i, i < n → ∀ o, ops[i]? = some o → ∀ a w, S w → Frm D n a0 a → (∀ e ∈ o.after, Region.binds md e = true → G e.on (a.eval (.tmp (D e.on))) w) → wpOp P ops Q i (fun a' w' => S w' ∧ Ext w w' ∧ ∃ v, a' = a.put (some (D i)) v ∧ G i v w') a w)
  (hend : ∀ listed a w, HeadInv md ops n listed → (∀ j, j < n → listed.getD j false = true) → S w → Frm D n a0 a → (∀ j, j < n → G j (a.eval (.tmp (D j))) w) → L listed a w) :
  ∀ (f : Nat) (listed : Array Bool) (a : Act) (w : World), unl n listed = f → HeadInv md ops n listed → S w → Frm D n a0 a → (∀ j, j < n → listed.getD j false = true → G j (a.eval (.tmp (D j))) w) → wpAnyLH P md ops Q S n L f listed a w
 | 0, listed, a, w, hf, inv, hS, hF, hGa => by
  have hall : ∀ j, j < n → listed.getD j false = true := fun j hj => by
   have h1 := unl_zero hf hj
   have hlt : j < listed.size := by rw [inv.size]; omega
   simpa [hlt] using h1
  exact hend listed a w inv hall hS hF (fun j hj => hGa j hj (hall j hj))
 | f + 1, listed, a, w, hf, inv, hS, hF, hGa => by
  -- the first that has not come up is ready
  have hex : ∃ j, j < n ∧ listed.getD j true = false ∧ ∀ k, k < j → listed.getD k false = true := by
   have h0 : ∃ j, j < n ∧ listed.getD j true = false := by
    refine Classical.byContradiction fun hno => ?_
    have : unl n listed = 0 := List.countP_eq_zero.2 (fun j hj => by
     have hj := List.mem_range.1 hj
     cases hq : listed.getD j true with
     | true => simp
     | false => exact absurd ⟨j, hj, hq⟩ hno)
    omega
   obtain ⟨j, hj, hq⟩ := h0
   induction j using Nat.strongRecOn with
   | _ j ih =>
    by_cases hk : ∀ k, k < j → listed.getD k false = true
    ·exact ⟨j, hj, hq, hk⟩
    ·have : ∃ k, k < j ∧ listed.getD k false ≠ true := by
      refine Classical.byContradiction fun hno => hk (fun k hk2 => Classical.byContradiction fun h3 => hno ⟨k, hk2, h3⟩)
     obtain ⟨k, hk1, hk2⟩ := this
     refine ih k hk1 (by omega) (getD_in (by rw [inv.size]; omega) (by simpa using hk2))
  obtain ⟨j0, hj0, hq0, hmin⟩ := hex
  refine ⟨fun hr => ?_, fun i hi => ?_⟩
  ·have hj0s : j0 < ops.size := by omega
   have : j0 ∈ Region.ready md ops listed := mem_ready.2 ⟨hq0, ops[j0], Array.getElem?_eq_getElem hj0s, fun e he hb => hmin _ (hdep j0 hj0 _ (Array.getElem?_eq_getElem hj0s) e he hb)⟩
   rw [hr] at this; cases this
  ·have hin : i < n := by
    rcases Nat.lt_or_ge i n with h | h
    ·exact h
    ·exact absurd hi (tail_waits hs hc hn inv _ j0 rfl hj0 hq0 i h)
   refine ⟨hin, ?_⟩
   obtain ⟨hun, o, ho, hall⟩ := mem_ready.1 hi
   have hdeps : ∀ e ∈ o.after, Region.binds md e = true → G e.on (a.eval (.tmp (D e.on))) w := fun e he hb => hGa _ (Nat.lt_trans (hdep i hin o ho e he hb) hin) (hall e he hb)
   refine wpOp_mono ?_ (hop i hin o ho a w hS hF hdeps)
   rintro a' w' ⟨hS', hE, v, rfl, hv⟩
   refine ⟨hS', wpAnyLH_inv hD hsz hdep hs hc hn hG hop hend f _ _ w' (by have := unl_set hin hun; omega) (inv.set hi hin) hS' ?_ ?_⟩
   ·refine ⟨by simp [Act.put, hF.size], fun t ht => ?_, hF.defers⟩
    have hne : D i ≠ t := ht i hin
    rw [← hF.other t ht]
    simp [Act.put, Array.getElem?_setIfInBounds_ne hne]
   ·intro j hj hl
    by_cases hij : i = j
    ·subst hij
     have hlt : D i < a.tmps.size := by rw [hF.size]; exact hsz i hin
     have : (a.put (some (D i)) v).eval (.tmp (D i)) = v := by simp [Act.eval, Act.put, hlt]
     rw [this]; exact hv
    ·have hne : D i ≠ D j := fun h => hij (hD i j hin hj h)
     have : (a.put (some (D i)) v).eval (.tmp (D j)) = a.eval (.tmp (D j)) := by simp [Act.eval, Act.put, Array.getElem?_setIfInBounds_ne hne]
     rw [this]
     rw [getD_set_ne false hij] at hl
     exact hG _ _ _ _ (hGa j hj hl) hE
theorem listed_eq {n : Nat} {listed : Array Bool} (inv : HeadInv md ops n listed) (hall : ∀ j, j < n → listed.getD j false = true) : listed = ((List.range ops.size).map fun j => decide (j < n)).toArray := by
 apply Array.ext
 ·simp [inv.size]
 ·intro j h1 h2
  have hj : j < ops.size := by rw [← inv.size]; exact h1
  simp only [List.getElem_toArray, List.getElem_map, List.getElem_range]
  by_cases hjn : j < n
  ·have := hall j hjn
   rw [decide_eq_true hjn]
   simpa [h1] using this
  ·rw [decide_eq_false hjn]
   have := inv.tail j (by omega) hj
   simpa [h1] using this
end
end Go.Proofs.YtjnpakablgommaaGreatDoor
namespace Go.Proofs.YtjnpakablgommaaGreatDoor
open Go.RowKit Go.Sort
def dgB (b : Nat) : Nat → Nat → List Nat
 | 0, _ => []
 | n + 1, k => dgB b n (k / b) ++ [k % b]
@[simp] theorem dgB_length (b : Nat) : ∀ n k, (dgB b n k).length = n
 | 0, _ => rfl
 | n + 1, k => by simp [dgB, dgB_length b n]
def bxR (n m k : Nat) : List Int := (dgB (2 * m + 1) n k).map fun (d : Nat) => (d : Int) - m
@[simp] theorem bxR_length (n m k : Nat) : (bxR n m k).length = n := by simp [bxR]
def hgt (P : List Int) (y : List Int) : Nat → Nat
 | 0 => 1
 | k + 1 => hgt P y k * (P.getD k 0).toNat ^ (y.getD k 0).natAbs
end Go.Proofs.YtjnpakablgommaaGreatDoor
