/- Part 5, beside the shared parts, of the proof of the claim: contracts and plain laws; no condition. -/
import Derived.Test.YtkjnjmihfonilaaGreatDoorV01
import Derived.Test.YtkjnjmihfonilaaGreatDoorV02
import Derived.Test.YtkjnjmihfonilaaGreatDoorV03
import Derived.Test.YtkjnjmihfonilaaGreatDoorV04
import Derived.Test.YtkjnjmihfonilaaGreatDoorV05
import Derived.Test.YtkjnjmihfonilaaGreatDoorV06
import Derived.Test.YtkjnjmihfonilaaGreatDoorV07
import Derived.Test.YtkjnjmihfonilaaGreatDoorV08
import Derived.Test.YtkjnjmihfonilaaGreatDoorV09
import Derived.Test.YtkjnjmihfonilaaGreatDoorV10
import Derived.Test.YtkjnjmihfonilaaGreatDoorV11
import Derived.Test.YtkjnjmihfonilaaGreatDoorV12
import Derived.Test.YtkjnjmihfonilaaGreatDoorV13
import Derived.Test.YtkjnjmihfonilaaGreatDoorV14
import Derived.Test.YtkjnjmihfonilaaGreatDoorV15
import Derived.Test.YtkjnjmihfonilaaGreatDoorV16
import Derived.Test.YtkjnjmihfonilaaGreatDoorV17
import Derived.Test.YtkjnjmihfonilaaGreatDoorV18
import Derived.Test.YtkjnjmihfonilaaGreatDoorV19
import Derived.Test.YtkjnjmihfonilaaGreatDoorV20
import Derived.Test.YtkjnjmihfonilaaGreatDoorV21
import Derived.Test.YtkjnjmihfonilaaGreatDoorV22
import Derived.Test.YtkjnjmihfonilaaGreatDoorV23
import Derived.Test.YtkjnjmihfonilaaGreatDoorV24
import Derived.Test.YtkjnjmihfonilaaGreatDoorV25
import Derived.Test.YtkjnjmihfonilaaGreatDoorV26
import Derived.Test.YtkjnjmihfonilaaGreatDoorV27
import Derived.Test.YtkjnjmihfonilaaGreatDoorV28
import Derived.Test.YtkjnjmihfonilaaGreatDoorV29
import Derived.Test.YtkjnjmihfonilaaGreatDoorV30
import Derived.Test.YtkjnjmihfonilaaGreatDoorZ01
import Derived.Test.YtkjnjmihfonilaaGreatDoorZ02
import Derived.Test.YtkjnjmihfonilaaGreatDoorZ03
import Derived.Test.YtkjnjmihfonilaaGreatDoorZ04
namespace Go.Proofs.YtkjnjmihfonilaaGreatDoor
open Go.RowKit Go.Sort
theorem swp_self {ls : List Ln} {d : Nat} (_ : d < ls.length) : swp ls d d = ls := by
  unfold swp
  rw [List.set_set]
  refine List.ext_getElem (by simp) fun t h1 h2 => ?_
  rw [List.getElem_set]
  split
  · rename_i e; subst e; rw [getD_get h2]
  · rfl
structure Un0 (c0 N : Nat) (ls : List Ln) : Prop where
  len : ls.length = N
  zero : ∀ t, t < N → ∀ c, c < c0 → en ls t c = 0
  unit : ∀ t i, t < N → i < N → en ls t (c0 + i) = if t = i then 1 else 0
theorem Un0.fin {c0 N n m d : Nat} {ls : List Ln} (h : Un0 c0 N ls) (hd : Dim n m ls) (hdN : d < N) : abvTo (c0 + d) d d (posAt (c0 + d) d ls) = ls := by
  have h1 : en ls d (c0 + d) = 1 := by rw [h.unit d d hdN hdN, if_pos rfl]
  have hp : posAt (c0 + d) d ls = ls := by
    unfold posAt
    rw [h1, if_neg (by omega)]
  rw [hp]
  refine List.ext_getElem (by simp) fun t h1 h2 => ?_
  rw [abvTo_get _ _ _ _ _ h2]
  split
  · rename_i htd
    have htN : t < N := by omega
    have e0 : col (c0 + d) ls[t] = 0 := by
      have := h.unit t d htN hdN
      unfold en at this
      rw [getD_get h2, if_neg (by omega)] at this
      exact this
    unfold redL
    rw [e0, Int.zero_fdiv]
    have hl1 := hd _ (List.getElem_mem h2)
    have hdl : d < ls.length := by rw [h.len]; exact hdN
    have hl2 := hd _ (List.getElem_mem hdl)
    rw [getD_get hdl]
    unfold lsub
    rw [subK_zero _ _ (by rw [hl1.1, hl2.1]; exact Nat.le_refl _), subK_zero _ _ (by rw [hl1.2, hl2.2]; exact Nat.le_refl _)]
  · rfl
set_option maxRecDepth 100000 in
set_option maxHeartbeats 4000000 in
theorem herm0 {w0 w : World} {g cap N c0 : Nat} {ad : List (Nat × Nat)} {ls : List Ln} (hG : Gr w0.heap.size w g cap N (c0 + N) ad ls) (hU : Un0 c0 N ls) (hNp : 0 < N) (hN : N ≤ 1000) (hc0 : c0 ≤ 1000) (hcap : N ≤ cap) (hA : AllL 30 ls) (hL : Laid w0) (hE : Ext w0 w) :
    Calls Tryz.prog 148 #[slv g N cap, .int .i64 ((c0 + N : Nat) : Int)] w fun e w' => e = .returned (slv g N cap) ∧ (∃ ad', Gr w0.heap.size w' g cap N (c0 + N) ad' ls) ∧ Ext w0 w' := by
  have HL := Lib.hid hL
  have HU := Lib.hid hU
  have HA := Lib.hid hA
  have Hdim := Lib.hid hG.dim
  obtain ⟨n, hn⟩ : ∃ n, n = c0 + N := ⟨_, rfl⟩
  rw [← hn] at hG Hdim ⊢
  have Hlen := Lib.hid hU.len
  have hn2 : n ≤ 2000 := by omega
  clear hL hU hA
  go_enter Tryz.func148, Tryz.ntmps148
  go_wp2_with fail
  go_loopw [5, 6] (fun dn idx wr => ∃ (c d : Nat) (ad1 : List (Nat × Nat)), c ≤ n ∧ d = c - c0 ∧ idx = .int .i64 c ∧ dn = .int .i64 d ∧ Hid (Gr w0.heap.size wr g cap N n ad1 ls) ∧ Ext w0 wr) (fun _ idx _ => n - (intOf idx).toNat)
  case atStart => exact ⟨0, 0, ad, by omega, by omega, by go_num, by go_num, Lib.hid hG, hE⟩
  case round =>
    clear hG hE
    obtain ⟨c, d, ad1, hc, hd, rfl, rfl, hG1, hE1⟩ := hrel
    generalize wr = U at *
    have hdcap : (d : Int) ≤ (cap : Int) := by omega
    have Hd := Lib.hid hd
    have Hn := Lib.hid hn
    have hdN0 : c < n → d < N := fun h => by omega
    have hdN1 : ¬ c < n → d = N ∧ c = n := fun h => by omega
    clear hd hn
    by_cases hcn : c < n
    · have hci : (c : Int) < (n : Int) := by omega
      have hdL : d < N := hdN0 hcn
      clear hdN0 hdN1
      have hdi : (d : Int) < (N : Int) := by omega
      obtain ⟨M, hM⟩ : ∃ M, M = N - d := ⟨_, rfl⟩
      have hMd : d + M = N := by omega
      have Hcol := Lib.hid (fun t (ht : t < M) => show cols c d ls t = if c0 ≤ c ∧ t = 0 then 1 else 0 by
        show en ls (d + t) c = _
        have hd := Hd.out
        by_cases h1 : c0 ≤ c
        · have h2 := HU.out.unit (d + t) d (by omega) (by omega)
          rw [show c0 + d = c by omega] at h2
          rw [h2]
          by_cases h3 : t = 0
          · rw [if_pos (by omega), if_pos ⟨h1, h3⟩]
          · rw [if_neg (by omega), if_neg (by omega)]
        · rw [if_neg (by omega)]
          exact HU.out.zero (d + t) (by omega) c (by omega))
      clear hM
      go_wp2_with fail
      go_loopg [5] 0 (fun k' dn wr => dn = .int .i64 d ∧ k' = 0 ∧ wr = U)
      case atStart => exact ⟨rfl, rfl, rfl⟩
      case round =>
        obtain ⟨rfl, hk', hwr⟩ := hrel
        subst hwr
        have HG1 := hG1
        clear hG1
        generalize wr = V at *
        go_wp2_with fail
        go_loopw [7, 8, 9] (fun kk mm idx wr => ∃ (i : Nat) (kv : Int), i ≤ M ∧ idx = .int .i64 ((d + i : Nat) : Int) ∧ kk = .int .i64 kv ∧ mm = .bool false ∧ Hid (kv = if c0 ≤ c ∧ 0 < i then (d : Int) else -1) ∧ Ext V wr) (fun _ _ idx _ => N - (intOf idx).toNat)
        case atStart => exact ⟨0, -1, by omega, by simp, rfl, rfl, Lib.hid (by rw [if_neg (by omega)]), Ext.refl _⟩
        case round =>
          obtain ⟨i, kv, hi, rfl, rfl, rfl, hB, hEV⟩ := hrel
          obtain ⟨a, ha⟩ : ∃ a, a = d + i := ⟨_, rfl⟩
          rw [← ha]
          by_cases hlt : i < M
          · have hii : (a : Int) < (N : Int) := by omega
            obtain ⟨gx, cx, ead, c1, cz, o1, _⟩ := (HG1.out.ext hEV).ln (d := d) (i := i) (by omega) hcn
            rw [Hcol.out i hlt] at cz
            rw [← ha] at c1
            have Ha := Lib.hid ha
            have hidx : (Value.int .i64 ((a : Int) + 1)) = .int .i64 ((d + (i + 1) : Nat) : Int) := by rw [show ((d + (i + 1) : Nat) : Int) = (a : Int) + 1 by omega]
            have Hidx := Lib.hid hidx
            by_cases hz0 : c0 ≤ c ∧ i = 0
            · rw [if_pos hz0] at cz
              have hitz : (Lib.itoa 1 == [48]) = false := by rw [itoa_eq_zero]; rfl
              have Hkv := Lib.hid (show kv = -1 by rw [hB.out, if_neg (by omega)])
              have hkv : kv = -1 := Hkv.out
              subst hkv
              have Hz := Lib.hid hz0
              clear hz0 hidx ha o1 ead hB
              go_wp2_with fail
              go_quiet (fail)
              go_wp2_with fail
              go_roundw
              case rel => exact ⟨i + 1, _, by omega, Hidx.out, rfl, rfl, Lib.hid (by rw [if_pos ⟨Hz.out.1, by omega⟩, Ha.out, Hz.out.2]; simp), hEV.drewN _⟩
              case measure => simp [intOf] <;> omega
            · rw [if_neg hz0] at cz
              have hitz : (Lib.itoa 0 == [48]) = true := by rw [itoa_eq_zero]; rfl
              have Hz := Lib.hid hz0
              clear hz0 hidx ha o1 ead
              go_wp2_with fail
              go_roundw
              case rel => exact ⟨i + 1, kv, by omega, Hidx.out, rfl, rfl, Lib.hid (by
                rw [hB.out]
                by_cases h1 : c0 ≤ c
                · have h2 : 0 < i := by
                    rcases Nat.eq_zero_or_pos i with h | h
                    · exact absurd ⟨h1, h⟩ Hz.out
                    · exact h
                  rw [if_pos ⟨h1, h2⟩, if_pos ⟨h1, by omega⟩]
                · rw [if_neg (by omega), if_neg (by omega)]), hEV⟩
              case measure => simp [intOf] <;> omega
          · have hiM : i = M := by omega
            subst hiM
            have haN : a = N := by omega
            subst haN
            clear ha
            by_cases hcc : c0 ≤ c
            · have hi0 : 0 < i := by omega
              have hkv : kv = (d : Int) := by rw [hB.out, if_pos ⟨hcc, hi0⟩]
              subst hkv
              have hG3 := HG1.out.ext hEV
              obtain ⟨gx, cx, ead, c1, _, _, _⟩ := hG3.el (i := d) hdL hcn
              have fz := hG3.fz
              have hS := hG3.swap (by omega : 0 < n) hdL hdL ead ead
              have hgb := hG3.base.1
              have hd0 : ¬ (d : Int) < 0 := by omega
              have Hcc := Lib.hid hcc
              have HS := Lib.hid hS
              clear hcc hi0 hB ead hS
              go_wp2_with fail
              go_region
              obtain ⟨hS1, hS2⟩ := HS.out
              rw [swp_self (by rw [Hlen.out]; exact hdL)] at hS1
              have hG4 := Lib.hid (hS1.ext ((Ext.refl _).drew))
              have hE4 := (ext_trans_grown (hE1.trans hEV) hS2 hgb).drew
              generalize hW5 : World.drew (World.setCell _ _ _) = W5 at *
              clear hW5 HS hS1 hS2 c1 hG3
              have hdn : c = c0 + d := by have := Hd.out; have := Hcc.out; omega
              have hz1 : en ls d c = 1 := by rw [hdn, HU.out.unit d d hdL hdL, if_pos rfl]
              have hab : abvTo c d d (posAt c d ls) = ls := by rw [hdn]; exact HU.out.fin Hdim.out hdL
              have hfn := Lib.hid (finish_any (E := 30) hG4.out hdL hcn (by have := Hn.out; omega) (by omega) HA.out (by rw [hz1]; decide) (by unfold LIM; omega) HL.out hE4)
              have Hab := Lib.hid hab
              clear hab hz1 hdn
              go_wp2_with fail
              refine hfn.out.mono ?_
              rintro e W6 ⟨rfl, hG6, hE6⟩
              rw [Hab.out] at hG6
              have HG6 := Lib.hid hG6
              clear hG6 hfn
              go_wp2_with fail
              go_roundw
              case rel => exact ⟨c + 1, d + 1, _, by omega, by have := Hd.out; have := Hcc.out; omega, by go_num, by go_num, HG6, hE6⟩
              case measure => simp [intOf] <;> omega
            · have hkv : kv = -1 := by rw [hB.out, if_neg (by omega)]
              subst hkv
              have Hcc := Lib.hid hcc
              clear hcc hB
              go_wp2_with fail
              go_roundw
              case rel => exact ⟨c + 1, d, ad1, by omega, by have := Hd.out; have := Hcc.out; omega, by go_num, rfl, Lib.hid (HG1.out.ext hEV), hE1.trans hEV⟩
              case measure => simp [intOf] <;> omega
    · obtain ⟨hdN, hcn2⟩ := hdN1 hcn
      subst hdN hcn2
      clear hdN0
      have Hq := Lib.hid (And.intro hG1.out hE1)
      go_wp2_with fail
      go_ret
      exact ⟨rfl, ⟨ad1, Hq.out.1⟩, Hq.out.2⟩
end Go.Proofs.YtkjnjmihfonilaaGreatDoor
namespace Go.Proofs.YtkjnjmihfonilaaGreatDoor
open Go.RowKit Go.Sort
theorem un0_wide {c : Nat} {M : Mx} (hR : Rect c M) (hz : ∀ r ∈ M, ∀ z ∈ r, z = 0) : Un0 c M.length (ln1 (wideM M)) := by
  have hen : ∀ t (ht : t < M.length) j, en (ln1 (wideM M)) t j = (M[t] ++ unitR M.length t).getD j 0 := fun t ht j => by
    show ((ln1 (wideM M)).getD t default).1.getD j 0 = _
    have h1 : t < (ln1 (wideM M)).length := by simpa using ht
    rw [getD_get h1]
    simp [ln1, wideM_get ht]
  refine ⟨by simp, fun t ht j hj => ?_, fun t i ht hi => ?_⟩
  · have hrl : M[t].length = c := hR _ (List.getElem_mem ht)
    rw [hen t ht, List.getD_eq_getElem?_getD, List.getElem?_append_left (by omega), List.getElem?_eq_getElem (by omega)]
    exact hz _ (List.getElem_mem ht) _ (List.getElem_mem _)
  · have hrl : M[t].length = c := hR _ (List.getElem_mem ht)
    rw [hen t ht, List.getD_eq_getElem?_getD, List.getElem?_append_right (by omega), hrl, show c + i - c = i by omega]
    unfold unitR
    by_cases e : t = i
    · subst e; rw [if_pos rfl, List.getElem?_set_self (by simp; omega)]; rfl
    · rw [if_neg e, List.getElem?_set_ne e, List.getElem?_replicate, if_pos hi]; rfl
theorem un0_form {c0 N : Nat} {ls : List Ln} (h : Un0 c0 N ls) : FormTo (c0 + N) N ((List.range N).map fun i => c0 + i) ls := by
  have hp : ∀ i, i < N → ((List.range N).map fun i => c0 + i).getD i 0 = c0 + i := fun i hi => by
    rw [List.getD_eq_getElem?_getD, List.getElem?_map, List.getElem?_range hi]; rfl
  refine ⟨by simp, by rw [h.len]; exact Nat.le_refl _, fun i hi => by rw [hp i hi]; omega, fun i k hik hk => by rw [hp i (by omega), hp k hk]; omega, fun i hi j hj => ?_, fun i hi => ?_, fun i k hik hk => ?_, fun i hi hi2 => by rw [h.len] at hi2; omega⟩
  · rw [hp i hi] at hj
    by_cases hc : j < c0
    · exact h.zero i hi j hc
    · have := h.unit i (j - c0) hi (by omega)
      rw [show c0 + (j - c0) = j by omega, if_neg (by omega)] at this
      exact this
  · rw [hp i hi, h.unit i i hi hi, if_pos rfl]; decide
  · rw [hp k hk, h.unit i k (by omega) hk, h.unit k k hk hk, if_neg (by omega), if_pos rfl]; decide
def WdPost0 (w : World) (M : Mx) (c : Nat) (e : Ending) (w' : World) : Prop :=
  ∃ g cap H, e = .returned (.tuple #[slv g H.length cap, .int .i64 c]) ∧ HnfOf (c + M.length) (wideM M) H ∧ H.length ≤ M.length ∧ GridR w' (slv g H.length cap) H ∧ (∀ r ∈ H, ∀ z ∈ r, z.natAbs < 2 ^ 30) ∧ Ext w w'
set_option maxRecDepth 100000 in
set_option maxHeartbeats 1000000 in
theorem wide0 {w : World} {v : Value} {M : Mx} {c : Nat} (hM : MatR w v M) (hR : Rect c M) (h0 : 0 < M.length) (hl : M.length ≤ 1000) (hc : c ≤ 1000) (hent : ∀ r ∈ M, ∀ z ∈ r, -1000000000 ≤ z ∧ z ≤ 1000000000) (hz : ∀ r ∈ M, ∀ z ∈ r, z = 0)
    (hL : Laid w) : Calls Tryz.prog 107 #[v] w (WdPost0 w M c) := by
  obtain ⟨sa, gb, go, cp, vs, hv, hcp, hvl, hS, hr⟩ := id hM
  obtain ⟨sr, br, or, cr, hrow, _, _⟩ := MatR.row hS hvl hr h0
  have hrc : M[0].length = c := hR _ (List.getElem_mem h0)
  rw [hrc, Nat.add_zero] at hrow
  have hbig := Lib.hid (sbig_any (w := w) hM (by omega) (fun r hr => by rw [hR r hr]; omega) (fun r hr z hz => by have := hent r hr z hz; unfold I64; omega) hL)
  obtain ⟨s0, hs, hy0, hy1, hy2⟩ := info_parts Tryz.infoStr
  subst hv
  obtain rfl := hS.addr (by omega)
  have HR := Lib.hid hR
  have Hent := Lib.hid hent
  have HU := Lib.hid (un0_wide hR hz)
  have HL := Lib.hid hL
  obtain ⟨N, hN⟩ : ∃ N, N = M.length := ⟨_, rfl⟩
  have hun := Lib.hid (fun W => sunit_any (w := W) (n := N) (by omega))
  have HN := Lib.hid hN
  have hN0 : (N == 0) = false := beq_eq_false_iff_ne.2 (by omega)
  have hN1 : ((N : Int) == 0) = false := beq_eq_false_iff_ne.2 (by omega)
  have hN2 : 0 < N := by omega
  have hN3 : N ≤ 1000 := by omega
  rw [← hN] at hbig ⊢
  clear hM hR hent hz hL hvl hS hr hrc hN
  go_enter Tryz.func107, Tryz.ntmps107
  go_wp2_with fail
  refine hbig.out.mono ?_
  rintro e w1 ⟨v1, ad1, rfl, hG1, hE1⟩
  go_wp2_with fail
  refine (hun.out w1).mono ?_
  rintro e w2 ⟨v2, ad2, rfl, hG2, hE2⟩
  obtain ⟨ga1, cap1, rfl, hcap1, hs1⟩ := hG1.shape
  obtain ⟨g1, rfl⟩ := hs1 (by rw [← HN.out]; exact hN2)
  obtain ⟨ga2, cap2, rfl, hcap2, hs2⟩ := hG2.shape
  obtain ⟨g2, rfl⟩ := hs2 (by rw [unitM_length]; exact hN2)
  rw [← HN.out] at hcap1 ⊢
  rw [unitM_length] at hcap2 ⊢
  have HG1 := Lib.hid hG1
  have HG2 := Lib.hid hG2
  have hb1 := hG1.outer.lt
  have hb2 := hG2.outer.lt
  have hsz1 := hE1.size
  have hsz2 := hE2.size
  have hE12 := hE1.trans hE2
  clear hG1 hG2 hbig hun
  go_wp2_with fail
  go_loopw [21] (fun idx wr => ∃ (i : Nat) (ad3 : List (Nat × Nat)), i ≤ N ∧ idx = .int .i64 i ∧ Hid (GrX w.heap.size wr (slv g1 (wideTo i M).length cap1) (wideTo i M) ad3) ∧ Hid (∀ j, i ≤ j → ad3[j]? = ad1[j]?) ∧ Hid (Chg (fun k => w.heap.size ≤ k ∧ k < w1.heap.size) w2 wr)) (fun idx _ => N - (intOf idx).toNat)
  case atStart => exact ⟨0, ad1, by omega, by go_num, Lib.hid (by rw [wideTo_zero]; exact HG1.out.ext hE2), Lib.hid (fun j _ => rfl), Lib.hid (Chg.refl _ _)⟩
  case round =>
    obtain ⟨i, ad3, hi, rfl, hG, ha, hC⟩ := hrel
    generalize wr = X at *
    have hEX : Ext w X := hC.out.ext hE12 (fun k hk => hk.1)
    by_cases hlt : i < N
    · have hii : (i : Int) < (N : Int) := by omega
      have hiM : i < M.length := by rw [← HN.out]; exact hlt
      obtain ⟨gx, cx, ead, c1, hI, hgx⟩ := hG.out.hd (i := i) (by rw [wideTo_length]; exact hiM)
      rw [wideTo_at hiM] at c1 hI hgx
      obtain ⟨gu, cu, eadu, cu1, hIu, hgu⟩ := HG2.out.hd (i := i) (by rw [unitM_length]; exact hlt)
      have hur : (unitM N).getD i [] = unitR N i := by rw [getD_get (by simpa using hlt), unitM_get]
      have hul : (unitR N i).length = N := by simp [unitR]
      rw [hur, hul, xv_pos hN2] at cu1 hIu
      have hou : OwnV 80 w1.heap.size w2 gu cu (ss (unitR N i)) := by
        unfold IntsV at hIu; unfold OwnV; rw [ss_length, hul]; rw [hul] at hIu; exact hIu
      have hgul := hou.lt
      have hcu := hC.out.cell (by omega) cu1
      have hou2 := Lib.hid (hC.out.own (by omega) hou)
      obtain ⟨r, hr⟩ : ∃ r, r = M[i] := ⟨_, rfl⟩
      have hrl : r.length = c := by rw [hr]; exact HR.out _ (List.getElem_mem hiM)
      have Hstep := Lib.hid (wideTo_step hiM)
      rw [← hr] at c1 hI hgx Hstep
      rw [← HN.out] at Hstep
      have hgx1 : 0 < r.length → w.heap.size ≤ gx ∧ gx < w1.heap.size := fun h => by
        have h2 := HG1.out.hd (i := i) hiM
        obtain ⟨gy, cy, eady, _, hIy, _⟩ := h2
        have := ha.out i (Nat.le_refl _)
        rw [ead, eady] at this
        injection this with this
        injection this with e1 e2
        rw [← e1] at hIy
        rw [getD_get hiM, ← hr, xv_pos h] at hIy
        exact World.ownsRow.lt hIy gx rfl
      obtain ⟨xa, xl, xk, hxv⟩ := xv_slice r.length gx cx
      have hob : ∀ q, (xv r.length gx cx).ownBlock = some q → w.heap.size ≤ q ∧ q < w1.heap.size := fun q hq => by
        rw [xv_own] at hq
        split at hq
        · cases hq
        · injection hq with hq; subst hq; exact hgx1 (by omega)
      have Hob := Lib.hid hob
      have HI := Lib.hid hI
      have Hrl := Lib.hid hrl
      have fz := hG.out.outer.frozen i
      have Hgx := Lib.hid hgx
      have Ead := Lib.hid ead
      have Hxv := Lib.hid hxv
      rw [hxv] at c1
      have hXw := hEX.size
      have hX2 := hC.out.size
      clear hr hrl hI hgx eadu hIu hgu hur hul hou cu1 hob hgx1 ead hxv
      have HNews := Lib.hid (show ∀ (j : Nat) (u : Value), (ss (unitR N i))[j]? = some u → X.drew.cell? ((⟨gu, 0, none⟩ : Addr).add j) = some u from fun j u hj => by
        have h2 := hou2.out.sl.cell j u hj
        simpa [Addr.add_lit] using h2)
      have HOne := Lib.hid (show ∀ u ∈ ss (unitR N i), u.oneCell' = true from fun u hu => by
        obtain ⟨y, _, rfl⟩ := List.mem_map.1 hu
        rfl)
      have HTo := Lib.hid (show some g1 ≠ (xv r.length gx cx).ownBlock by
        rw [xv_own]
        split
        · simp
        · intro e; injection e with e; exact Hgx.out (by omega) e.symm)
      have Hgl := Lib.hid (show g1 < X.heap.size by omega)
      have Hrn := Lib.hid (show r.length + N ≤ 2000 by rw [Hrl.out]; omega)
      have Hun := Lib.hid (show (ss (unitR N i)).length = N * 1 by rw [ss_length]; simp [unitR])
      have hcap1' : (i : Int) < (cap1 : Int) := by omega
      go_wp2_with fail
      go_region_law (refine step_append_lies _ (by rfl) _ _ _ (by rfl) w.heap.size 80 s0 _ 1 16 Tryz.underlying88 hs hy0 hy1 hy2 rfl (by omega) (xv r.length gx cx) r.length (ss r) (by rw [Hxv.out]; rfl) (ownsRow_ext HI.out ((Ext.refl _).drew)) ⟨gu, 0, none⟩ N cu (ss (unitR N i)) (by rfl) Hun.out HNews.out HOne.out hN2 (by have := Hrn.out; unfold maxLen; omega) (by have := Hrn.out; omega) hXw X.heap.size (by simp) ?_; intro gg cap6 w6 hown6 hgrow6 hat6 hlt6; have t6 := hgrow6.cell (((Ext.refl X).drew).cell c1) HTo.out; have f6 : w6.frozen? ⟨g1, i, none⟩ = false := (hgrow6.frozen_far ⟨g1, i, none⟩ Hgl.out HTo.out).trans fz)
      all_goals
        have hrn : (r ++ unitR N i).length = r.length + N := by rw [List.length_append]; simp [unitR]
        have hO6 : OwnV 80 w.heap.size w6 gg cap6 (ss (r ++ unitR N i)) := by
          unfold OwnV; rw [ss_append, List.length_append, ss_length, ss_length, show (unitR N i).length = N by simp [unitR]]; exact hown6
        have hC6 : Chg (fun k => (xv r.length gx cx).ownBlock = some k) X w6 := by
          have h1 := Chg.of_ext (R := fun k => (xv r.length gx cx).ownBlock = some k) ((Ext.refl X).drew)
          refine h1.trans ⟨hgrow6.os, hgrow6.tape, hgrow6.output, hgrow6.size, fun k hk hn => hgrow6.block k hk (fun e => hn e.symm)⟩
        have hal : ad3.length = (wideTo i M).length := hG.out.len
        have hgi : ∀ j (hj : j < ad3.length) (h : j < (wideTo i M).length), 0 < (wideTo i M)[j].length → j ≠ i → (xv r.length gx cx).ownBlock ≠ some ad3[j].1 ∧ ad3[j].1 ≠ gg := fun j hj h hj0 hji => by
          have h1 : (xv r.length gx cx).ownBlock ≠ some ad3[j].1 := by
            rw [xv_own]
            split
            · simp
            · intro e
              injection e with e
              have hia : i < ad3.length := by rw [hal, wideTo_length]; exact hiM
              have hiw : i < (wideTo i M).length := by rw [wideTo_length]; exact hiM
              have ei := Ead.out
              rw [List.getElem?_eq_getElem hia] at ei
              have ei2 := Option.some.inj ei
              have hl0 : 0 < (wideTo i M)[i].length := by
                have := wideTo_at hiM
                rw [getD_get hiw] at this
                have h5 : M[i].length = c := HR.out _ (List.getElem_mem hiM)
                rw [this, h5, ← Hrl.out]; omega
              have := hG.out.dis j i hj hia h hiw hj0 hl0 hji
              rw [ei2] at this
              exact this e.symm
          refine ⟨h1, fun e => ?_⟩
          rcases hat6 with h2 | h2
          · rw [e] at h1; exact h1 h2
          · have := (hG.out.lt j hj h hj0).2; omega
        have hput := hG.out.put (i := i) (r := r ++ unitR N i) (by rw [wideTo_length]; exact hiM) (by omega) hO6 hC6 (fun e => HTo.out e.symm) (fun j hj h hj0 hji => (hgi j hj h hj0 hji).1) (fun j hj h hj0 hji => (hgi j hj h hj0 hji).2)
        rw [hrn] at hput
        have hCn : Chg (fun k => w.heap.size ≤ k ∧ k < w1.heap.size) w2 (w6.setCell ⟨g1, i, none⟩ (slv gg (r.length + N) cap6)) :=
          (hC.out.trans (hC6.mono (fun k _ hk => Hob.out k hk))).trans (Chg.of_grown hput.2 ⟨hb1.1, hb1.2⟩)
        have hG7 := Lib.hid (show GrX w.heap.size (w6.setCell ⟨g1, i, none⟩ (slv gg (r.length + N) cap6)) (slv g1 (wideTo (i + 1) M).length cap1) (wideTo (i + 1) M) (ad3.set i (gg, cap6)) by
          rw [Hstep.out, List.length_set]; exact hput.1)
        have hC7 := Lib.hid hCn
        generalize hw7 : World.setCell w6 _ _ = w7 at *
        clear hw7 hown6 hgrow6 hat6 t6 f6 hlt6 hrn hO6 hC6 hal hgi hput hCn
        go_wp2_with fail
        go_roundw
        case rel => exact ⟨i + 1, _, by omega, by go_num, hG7, Lib.hid (fun j hj => by rw [List.getElem?_set_ne (by omega)]; exact ha.out j (by omega)), hC7⟩
        case measure => simp [intOf] <;> omega
    · have hie : i = N := by omega
      have hii : ¬ (i : Int) < (N : Int) := by omega
      have hG5 := hG.out
      have hwl : (wideTo i M).length = N := by rw [wideTo_length, HN.out]
      rw [hwl] at hG5
      rw [show wideTo i M = rowsL (ln1 (wideM M)) by rw [hie, HN.out, wideTo_all, rowsL_ln1]] at hG5
      have hGr : Gr w.heap.size X g1 cap1 N (c + N) ad3 (ln1 (wideM M)) := ⟨hG5, by rw [ln1_length, wideM_length, HN.out], ln1_dim (by have := wideM_rect HR.out; rw [← HN.out] at this; exact this)⟩
      have hU := HU.out
      rw [← HN.out] at hU
      have HU2 := Lib.hid hU
      have hher := Lib.hid (herm0 hGr hU hN2 (by omega) (by omega) hcap1 (wide_all Hent.out) HL.out hEX)
      have hcN : ((c + N : Nat) : Int) = (c : Int) + (N : Int) := by omega
      rw [hcN] at hher
      clear hG5 hGr hU hwl hcN hie
      go_wp2_with fail
      refine hher.out.mono ?_
      rintro e X2 ⟨rfl, ⟨ad4, hG8⟩, hE8⟩
      have hF := un0_form HU2.out
      have hA := wide_all Hent.out
      have hO : Ops 0 (ln1 (wideM M)) (ln1 (wideM M)) := .refl _
      have hdN : N ≤ N := Nat.le_refl _
      have hlN : (ln1 (wideM M)).length = N := hG8.len
      have Hres := Lib.hid (show WdPost0 w M c (.returned (.tuple #[slv g1 N cap1, .int .i64 c])) X2 by
        have hl : (fRows N (ln1 (wideM M))).length = N := fRows_length (by rw [hG8.len]; exact hdN)
        have hfo := form_of1 (M := wideM M) (n := c + N) (by have := wideM_rect HR.out; rw [← HN.out] at this; exact this) hO hF
        rw [show c + N = c + M.length by rw [HN.out]] at hfo
        refine ⟨g1, cap1, fRows N (ln1 (wideM M)), by rw [hl], hfo, by rw [hl, ← HN.out]; exact hdN, by rw [hl]; exact hG8.gridTake (by omega) hdN (by omega), fun r hr z hz => ?_, hE8⟩
        obtain ⟨t, ht, rfl⟩ := List.getElem_of_mem hr
        rw [hl] at ht
        rw [fRows_get ht (by rw [hG8.len]; exact hdN)] at hz
        have := (hA t (by rw [hG8.len]; omega)).1 z hz
        exact this)
      clear hher hG8 hF hO hA hdN hlN
      go_wp2_with fail
      go_ret2
      exact Hres.out
end Go.Proofs.YtkjnjmihfonilaaGreatDoor
