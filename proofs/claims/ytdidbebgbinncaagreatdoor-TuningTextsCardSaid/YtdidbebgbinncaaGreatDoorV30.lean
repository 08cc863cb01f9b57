/- Part 30 of the proof of the claim: contracts of the functions that it reaches, and plain laws; no condition. -/
import Derived.Test.YtdidbebgbinncaaGreatDoorV29
import Derived.Test.YtdidbebgbinncaaGreatDoorV25
import Derived.Test.YtdidbebgbinncaaGreatDoorV26
namespace Go.Proofs.YtdidbebgbinncaaGreatDoor
open Go.RowKit Go.Sort
theorem bgE_ok {n : Nat} {x : List Int} (h : bgE n x = 0) : chkRow x = 0 ∧ x.length = n := by
  unfold bgE at h
  split at h
  · rename_i h1
    split at h
    · rename_i h2; exact ⟨h1, h2⟩
    · cases h
  · rename_i h1; exact absurd h h1
def TpPost (w : World) (np : Nat) (M : Mx) (x : List Int) (e : Ending) (w' : World) : Prop :=
  Ext w w' ∧ ((bgE np x = 0 ∧ smallB (tmpL M x) = true ∧ ∃ v, e = .returned (.tuple #[v, .int .i64 0]) ∧ RowV w.heap.size w' v (tmpL M x)) ∨ (bgE np x = 0 ∧ smallB (tmpL M x) = false ∧ e = .returned (.tuple #[.slice none 0 0, .int .i64 4])) ∨ (bgE np x ≠ 0 ∧ e = .returned (.tuple #[.slice none 0 0, .int .i64 (bgE np x)])))
theorem tmpL_nd {M : Mx} {x : List Int} (hx : ∀ z ∈ x, -1000000000 ≤ z ∧ z ≤ 1000000000) (hM : SmK M) (hl : x.length ≤ 64) : ∀ z ∈ tmpL M x, nd z ≤ 67 := fun z hz => by
  obtain ⟨v, hv, rfl⟩ := List.mem_map.1 hz
  exact tmpT_b hx (hM v hv) hl
set_option maxRecDepth 100000 in
set_option maxHeartbeats 4000000 in
theorem Temper_any {w : World} {P : List Int} {C M : Mx} {sp : Option Addr} {cp : Nat} {sc : Option Addr} {lc cc : Nat} {sm : Option Addr} {lm cm : Nat} {sx : Option Addr} {n cx : Nat} {x : List Int} (h : TmV w P C M M sp cp sc lc cc sm lm cm) (hx : RowR w (.slice sx n cx) x) (hL : Laid w) :
    Calls Tryz.prog 17 #[tmS P sp cp sc lc cc sm lm cm, .slice sx n cx] w (TpPost w P.length M x) := by
  have hbe := fun W b (hW : Ext w W) (hc : W.cell? ⟨b, 0, none⟩ = some (.slice sx n cx)) => begin1_any (b := b) (h.ext hW) hc (hx.ext hW) (hL.ext hW)
  have hX := (Ext.refl w).alloc (.cells #[.slice sp P.length cp, .slice sc lc cc, .slice sm lm cm] 41)
  have x0 : (w.alloc (.cells #[.slice sp P.length cp, .slice sc lc cc, .slice sm lm cm] 41)).cell? ⟨w.heap.size, 0, none⟩ = some (.slice sp P.length cp) := by go_simp
  have x1 : (w.alloc (.cells #[.slice sp P.length cp, .slice sc lc cc, .slice sm lm cm] 41)).cell? ⟨w.heap.size, 1, none⟩ = some (.slice sc lc cc) := by go_simp
  have x2 : (w.alloc (.cells #[.slice sp P.length cp, .slice sc lc cc, .slice sm lm cm] 41)).cell? ⟨w.heap.size, 2, none⟩ = some (.slice sm lm cm) := by go_simp
  have hsz : w.heap.size ≤ (w.alloc (.cells #[.slice sp P.length cp, .slice sc lc cc, .slice sm lm cm] 41)).heap.size := by simp
  have xb : ((w.alloc (.cells #[.slice sp P.length cp, .slice sc lc cc, .slice sm lm cm] 41)).alloc (.cells #[.slice sx n cx] 34)).cell? ⟨w.heap.size + 1, 0, none⟩ = some (.slice sx n cx) := by go_simp
  by_cases hb : bgE P.length x = 0
  · obtain ⟨hcx, hlx⟩ := bgE_ok hb
    obtain ⟨hx64, hxb⟩ := chkRow_ok hcx
    obtain ⟨psM, hIM⟩ := h.ok.kM.1
    have hlM := isH_len hIM
    have hp4 := h.ok.p4
    have hte := Lib.hid (fun W (hW : Ext w W) => temper_any (h.ext hW) (hx.ext hW) hcx hlx (hL.ext hW))
    rw [hb] at hbe
    have Hbe := Lib.hid hbe
    have Hnd := Lib.hid (tmpL_nd hxb h.ok.sM hx64)
    have HL := Lib.hid hL
    have Hb := Lib.hid hb
    have hlen : (tmpL M x).length ≤ 4 := by rw [tmpL_length]; omega
    clear hcx hlx hx64 hxb hIM hlM hp4 hbe hb h hx hL
    obtain ⟨l, hl⟩ : ∃ l, l = tmpL M x := ⟨_, rfl⟩
    rw [← hl] at hte Hnd hlen
    have Hl := Lib.hid hl
    clear hl
    go_enter Tryz.func17, Tryz.ntmps17
    go_wp2_with fail
    refine (Hbe.out _ (w.heap.size + 1) (hX.alloc (.cells #[.slice sx n cx] 34)) xb).mono ?_
    generalize w.alloc (.cells #[.slice sp P.length cp, .slice sc lc cc, .slice sm lm cm] 41) = V at *
    rintro e X ⟨rfl, hE1⟩
    have y0 := hE1.cell (((Ext.refl V).alloc (.cells #[.slice sx n cx] 34)).cell x0)
    have y1 := hE1.cell (((Ext.refl V).alloc (.cells #[.slice sx n cx] 34)).cell x1)
    have y2 := hE1.cell (((Ext.refl V).alloc (.cells #[.slice sx n cx] 34)).cell x2)
    have e1 := (hX.alloc (.cells #[.slice sx n cx] 34)).trans hE1
    clear x0 x1 x2 xb Hbe hX hE1
    go_wp2_with fail
    refine (hte.out _ e1).mono ?_
    rintro e X2 ⟨v1, rfl, hv1, hE2⟩
    obtain ⟨ga, gb, cap, rfl, hcap, hS⟩ := hv1.sl
    have HS := Lib.hid hS
    have e2 := e1.trans hE2
    clear hv1 hS hte hE2 y0 y1 y2
    go_wp2_with fail
    go_loopw [7, 23] (fun out idx wr => ∃ i : Nat, i ≤ l.length ∧ idx = .int .i64 i ∧ Hid (RowV X2.heap.size wr out (l.take i)) ∧ Hid (∀ j (h : j < l.length), j < i → grt l[j] = false) ∧ Ext X2 wr) (fun _ idx _ => l.length - (intOf idx).toNat)
    case atStart => exact ⟨0, by omega, by go_num, Lib.hid (by rw [List.take_zero]; exact RowV.nil _ _), Lib.hid (fun j _ h => by omega), Ext.refl _⟩
    case round =>
      obtain ⟨i, hi', rfl, HO, Hz, hE⟩ := hrel
      generalize wr = Y at *
      by_cases hlt : i < l.length
      · have hii : (i : Int) < (l.length : Int) := by omega
        obtain ⟨z, hz⟩ : ∃ z, z = l[i] := ⟨_, rfl⟩
        have hc := hE.cell (HS.out.cell i (I z) (by rw [hz]; simp [ss, hlt]))
        rw [Nat.zero_add] at hc
        obtain rfl := HS.out.addr (by simp; omega)
        have hsm := Lib.hid (wholeSmall_any (z := z) (w := Y) (by have := Hnd.out z (by rw [hz]; exact List.getElem_mem hlt); unfold LIM; omega) (HL.out.ext (e2.trans hE)))
        have Hzz := Lib.hid hz
        have Hil := Lib.hid (show (l.take i).length = i by rw [List.length_take]; omega)
        have Htk := Lib.hid (show l.take (i + 1) = l.take i ++ [z] by rw [List.take_succ_eq_append_getElem hlt, hz])
        have hYs := hE.size
        cases hgz : grt z
        · have hzb : -1000000000 ≤ z ∧ z ≤ 1000000000 := by
            unfold grt at hgz; have := of_decide_eq_false hgz; omega
          have hin : inI64 z = true := decide_eq_true (by omega)
          rw [hin, if_pos rfl] at hsm
          obtain ⟨hy1, hy2⟩ := hzb
          have Hgz := Lib.hid hgz
          clear hin hgz hz
          go_wp2_with fail
          refine hsm.out.mono ?_
          rintro e W ⟨rfl, hW⟩
          have HOW := Lib.hid (HO.out.ext hW)
          have hWs := (hE.trans hW).size
          have hEW := hE.trans hW
          clear HO hsm hW
          go_wp2_with (at_builtin; refine app_int rfl _ _ 34 Tryz.underlying34 rfl rfl (HOW.out.ext ((Ext.refl _).alloc _)) rfl (b := W.heap.size) (z := z) (by go_simp) (by rw [Hil.out]; omega) (by simp; omega) ?_; intro gg cap2 w8 hO8 hB8 hG8; rw [Hil.out] at hO8 ⊢; rw [← Htk.out] at hO8)
          have hE8 : Ext X2 w8 := Below.trans (hEW.alloc (.cells #[.int .i64 z] 3)) hB8
          have HO8 := Lib.hid hO8
          clear hG8 hB8 hO8
          go_wp2_with fail
          go_roundw
          case rel => exact ⟨i + 1, by omega, by go_num, HO8, Lib.hid (fun j h hj => by
            by_cases e : j = i
            · subst e; rw [← Hzz.out]; exact Hgz.out
            · exact Hz.out j h (by omega)), hE8⟩
          case measure => simp [intOf] <;> omega
        · have Hno := Lib.hid (small_not hlt (by rw [← hz]; exact hgz))
          have hzb : 1000000000 < z ∨ z < -1000000000 := by
            unfold grt at hgz; exact of_decide_eq_true hgz
          clear hgz hz
          have hfin : ∀ W, Ext Y W → TpPost w P.length M x (.returned (.tuple #[.slice none 0 0, .int .i64 4])) W := fun W hW => ⟨(e2.trans hE).trans hW, .inr (.inl ⟨Hb.out, by rw [← Hl.out]; exact Hno.out, rfl⟩)⟩
          have Hfin := Lib.hid hfin
          clear hfin
          cases hin : inI64 z
          · rw [hin, if_neg (by decide)] at hsm
            clear hin hzb
            go_wp2_with fail
            refine hsm.out.mono ?_
            rintro e W ⟨rfl, hW⟩
            go_wp2_with fail
            go_ret2
            exact Hfin.out _ hW
          · rw [hin, if_pos rfl] at hsm
            clear hin
            rcases hzb with hzb | hzb
            · go_wp2_with fail
              refine hsm.out.mono ?_
              rintro e W ⟨rfl, hW⟩
              go_wp2_with fail
              go_ret2
              exact Hfin.out _ hW
            · have hzc : z ≤ 1000000000 := by omega
              go_wp2_with fail
              refine hsm.out.mono ?_
              rintro e W ⟨rfl, hW⟩
              go_wp2_with fail
              go_ret2
              exact Hfin.out _ hW
      · obtain rfl : i = l.length := by omega
        have HF := Lib.hid (show RowV X2.heap.size Y u7 l by have := HO.out; rw [List.take_length] at this; exact this)
        have Hs := Lib.hid (show smallB l = true from small_yes (fun j hj => Hz.out j hj hj))
        have hs2 := e2.size
        go_wp2_with fail
        go_ret2
        exact ⟨e2.trans hE, .inl ⟨Hb.out, by rw [← Hl.out]; exact Hs.out, _, rfl, by rw [← Hl.out]; exact HF.out.mono hs2⟩⟩
  · have Hbe := Lib.hid hbe
    obtain ⟨z, hz⟩ : ∃ z, z = bgE P.length x := ⟨_, rfl⟩
    have Hfin := Lib.hid (show ∀ W, Ext w W → TpPost w P.length M x (.returned (.tuple #[.slice none 0 0, .int .i64 z])) W from fun W hW => ⟨hW, .inr (.inr ⟨hb, by rw [hz]⟩)⟩)
    rw [← hz] at hbe hb
    have Hbe := Lib.hid hbe
    have h2 : (z == 0) = false := beq_eq_false_iff_ne.2 hb
    have h3 : (z != 0) = true := by simp [bne, h2]
    clear hz h hx hL hbe
    go_enter Tryz.func17, Tryz.ntmps17
    go_wp2_with fail
    refine (Hbe.out _ (w.heap.size + 1) (hX.alloc (.cells #[.slice sx n cx] 34)) xb).mono ?_
    generalize w.alloc (.cells #[.slice sp P.length cp, .slice sc lc cc, .slice sm lm cm] 41) = V at *
    rintro e X ⟨rfl, hE1⟩
    have e1 := (hX.alloc (.cells #[.slice sx n cx] 34)).trans hE1
    go_wp2_with fail
    go_ret2
    exact Hfin.out _ e1
end Go.Proofs.YtdidbebgbinncaaGreatDoor
namespace Go.Proofs.YtdidbebgbinncaaGreatDoor
open Go.RowKit Go.Sort
theorem shQ_nd {l : List Rat} (h : ShQ l) {E : Nat} (hE : 30 ≤ E) : ∀ r ∈ l, NdQ E r := fun r hr => ⟨by have := (h r hr).1; omega, by have := (h r hr).2; omega⟩
def shB (n d : Int) : Bool := decide (nd n ≤ 30) && decide (nd d ≤ 30)
theorem szshort_all {n d : Int} (hn : nd n ≤ 400) (h0 : 0 < d) (w : World) :
    Calls Tryz.prog 127 #[.agg #[I n, I d]] w fun e w' => e = .returned (.bool (shB n d)) ∧ Ext w w' := by
  have h1 := Lib.hid (fun W => Abs_any (z := n) (by unfold LIM; omega) W)
  have l1 : (Lib.itoa (n.natAbs : Int)).length = nd n := by
    rw [itoa_nat, Lib.decDigits_length]; rfl
  have l2 : (Lib.itoa d).length = nd d := by
    rw [itoa_pos (by omega), Lib.decDigits_length]; rfl
  have hX : Ext w (w.alloc (.cells #[I n, I d] 70)) := (Ext.refl w).alloc _
  have HO := two_alloc w 70 (I n) (I d)
  have c0 : (w.alloc (.cells #[I n, I d] 70)).cell? ⟨w.heap.size, 0, none⟩ = some (I n) := HO.cell (j := 0) (by simp)
  have c1 : (w.alloc (.cells #[I n, I d] 70)).cell? ⟨w.heap.size, 1, none⟩ = some (I d) := HO.cell (j := 1) (by simp)
  have hb : shB n d = (decide (nd n ≤ 30) && decide (nd d ≤ 30)) := rfl
  rw [← l1, ← l2] at hb
  have Hb := Lib.hid hb
  clear HO hn h0 hb
  go_enter Tryz.func127, Tryz.ntmps127
  go_wp2_with fail
  refine (h1.out _).mono ?_
  rintro e w1 ⟨rfl, hE1⟩
  have c0 := hE1.cell c0
  have c1 := hE1.cell c1
  have e1 := hX.trans hE1
  clear l1 l2
  unfold I S at c1 ⊢
  generalize Lib.itoa (n.natAbs : Int) = la at *
  generalize Lib.itoa d = lb at *
  by_cases i1 : la.length ≤ 30
  · have j1 : (la.length : Int) ≤ 30 := by omega
    by_cases i2 : lb.length ≤ 30
    · have j2 : (lb.length : Int) ≤ 30 := by omega
      rw [decide_eq_true i1, decide_eq_true i2] at Hb
      clear i1 i2
      go_wp2_with fail
      go_ret
      exact ⟨by rw [Hb.out]; rfl, e1⟩
    · have j2 : ¬ (lb.length : Int) ≤ 30 := by omega
      rw [decide_eq_true i1, decide_eq_false i2] at Hb
      clear i1 i2
      go_wp2_with fail
      go_ret
      exact ⟨ret_val (congrArg Value.bool (by rw [Hb.out, decide_eq_false (show ¬ (lb.length : Int) ≤ 30 by omega)]; rfl)), e1⟩
  · have j1 : ¬ (la.length : Int) ≤ 30 := by omega
    rw [decide_eq_false i1] at Hb
    clear i1
    go_wp2_with fail
    go_ret
    exact ⟨by rw [Hb.out]; rfl, e1⟩
def szE (l : List Rat) : Int := if l.all (fun r => shB r.num r.den) then 0 else 4
theorem szE_sh {l : List Rat} (h : ShQ l) : szE l = 0 := by
  unfold szE
  rw [if_pos]
  rw [List.all_eq_true]
  intro r hr
  obtain ⟨h1, h2⟩ := h r hr
  unfold shB
  rw [decide_eq_true h1, decide_eq_true h2]; rfl
set_option maxRecDepth 100000 in
set_option maxHeartbeats 1000000 in
theorem szcheck_all {w : World} {pa : Option Addr} {np cp : Nat} {v : Value} {l : List Rat} (hs : SzR w v l) (hl : l.length = np) (hb : ∀ r ∈ l, NdQ 400 r) (h1000 : np ≤ 1000000) (hL : Laid w) :
    Calls Tryz.prog 85 #[.slice pa np cp, v] w fun e w' => e = .returned (.int .i64 (szE l)) ∧ Ext w w' := by
  obtain ⟨sa, gb, cap, rfl, hc, ha, hr⟩ := hs
  have Hr := Lib.hid hr
  have Ha := Lib.hid ha
  have Hb := Lib.hid hb
  have HL := Lib.hid hL
  have Hl := Lib.hid hl
  rw [hl] at hc ⊢
  clear hr ha hb hL hl
  go_enter Tryz.func85, Tryz.ntmps85
  go_wp2_with fail
  go_loopw [14] (fun i wr => ∃ j : Nat, j ≤ np ∧ i = .int .i64 j ∧ Hid (∀ t (h : t < l.length), t < j → shB l[t].num l[t].den = true) ∧ Ext w wr) (fun i _ => np - (intOf i).toNat)
  case atStart => exact ⟨0, Nat.zero_le _, by go_num, Lib.hid (fun t _ h => by omega), Ext.refl _⟩
  case round =>
    obtain ⟨j, hj, rfl, HA, hE⟩ := hrel
    generalize wr = X at *
    by_cases hlt : j < np
    · have hjl : j < l.length := by rw [Hl.out]; exact hlt
      obtain rfl := Ha.out (by omega)
      obtain ⟨k0, k1⟩ := Hr.out j hjl
      have hbr := Hb.out l[j] (List.getElem_mem hjl)
      have x0 := hE.cell k0
      have x1 := hE.cell k1
      have hpos := qR_pos l[j]
      have hcop := qR_cop l[j]
      simp only [qR] at hpos hcop
      have hck := Lib.hid (fun W (hW : Ext X W) => fcheck_any (n := l[j].num) (d := l[j].den) hbr.1 hbr.2 hpos hcop (HL.out.ext (hE.trans hW)))
      have hsh := Lib.hid (fun W => szshort_all (n := l[j].num) (d := l[j].den) hbr.1 hpos W)
      have hji : (j : Int) < (np : Int) := by omega
      have Hno := Lib.hid (fun (h : shB l[j].num l[j].den = false) => show szE l = 4 by
        unfold szE
        rw [if_neg]
        intro h2
        rw [List.all_eq_true] at h2
        have := h2 l[j] (List.getElem_mem hjl)
        rw [h] at this; cases this)
      have Hyes := Lib.hid (fun (h : shB l[j].num l[j].den = true) t (ht : t < l.length) (htj : t < j + 1) => show shB l[t].num l[t].den = true by
        by_cases e : t = j
        · subst e; exact h
        · exact HA.out t ht (by omega))
      clear k0 k1 hbr hpos hcop HA
      generalize hb : shB l[j].num l[j].den = b at *
      clear hb
      generalize l[j].num = n at *
      generalize ((l[j].den : Nat) : Int) = d at *
      clear hjl
      have HO := two_alloc X 70 (I n) (I d)
      have hX : Ext X (X.alloc (.cells #[I n, I d] 70)) := (Ext.refl X).alloc _
      have c0 : (X.alloc (.cells #[I n, I d] 70)).cell? ⟨X.heap.size, 0, none⟩ = some (I n) := HO.cell (j := 0) (by simp)
      have c1 : (X.alloc (.cells #[I n, I d] 70)).cell? ⟨X.heap.size, 1, none⟩ = some (I d) := HO.cell (j := 1) (by simp)
      clear HO
      go_wp2_with fail
      refine (hck.out _ hX).mono ?_
      rintro e w1 ⟨rfl, hE1⟩
      have c0 := hE1.cell c0
      have c1 := hE1.cell c1
      have e1 := hX.trans hE1
      go_wp2_with fail
      refine (hsh.out _).mono ?_
      rintro e w2 ⟨rfl, hE2⟩
      have e2 := hE.trans (e1.trans hE2)
      clear hck hsh c0 c1 x0 x1
      cases b
      · have H4 := Lib.hid (Hno.out rfl)
        clear Hno Hyes
        go_wp2_with fail
        go_ret
        exact ⟨ret_val (congrArg (Value.int .i64) H4.out.symm), e2⟩
      · have HA := Lib.hid (Hyes.out rfl)
        clear Hno Hyes
        go_wp2_with fail
        go_roundw
        case rel => exact ⟨j + 1, by omega, by go_num, HA, e2⟩
        case measure => simp [intOf] <;> omega
    · have hje : j = np := by omega
      have hji : ¬ (j : Int) < (np : Int) := by omega
      have H0 := Lib.hid (show szE l = 0 by
        unfold szE
        rw [if_pos]
        rw [List.all_eq_true]
        intro r hr
        obtain ⟨t, ht, rfl⟩ := List.getElem_of_mem hr
        exact HA.out t ht (by have := Hl.out; omega))
      clear hlt HA
      go_wp2_with fail
      go_ret
      exact ⟨ret_val (congrArg (Value.int .i64) H0.out.symm), hE⟩
theorem szCheck_all {w : World} {pa : Option Addr} {np cp : Nat} {v : Value} {l : List Rat} (hpc : ∀ W, Ext w W → Calls Tryz.prog 84 #[.slice pa np cp] W fun e w' => e = .returned (.int .i64 0) ∧ Ext W w') (hs : SzR w v l) (hl : l.length = np) (hb : ∀ r ∈ l, NdQ 400 r) (h1000 : np ≤ 1000000) (hL : Laid w) :
    Calls Tryz.prog 32 #[.slice pa np cp, v] w fun e w' => e = .returned (.int .i64 (szE l)) ∧ Ext w w' := by
  have Hc := Lib.hid (fun W (hW : Ext w W) => szcheck_all (pa := pa) (cp := cp) (hs.ext hW) hl hb h1000 (hL.ext hW))
  have Hp := Lib.hid (hpc w (Ext.refl w))
  obtain ⟨sa, gb, cap, rfl, _, _, _⟩ := hs
  generalize szE l = z at *
  clear hpc hl hb hL
  go_enter Tryz.func32, Tryz.ntmps32
  go_wp2_with fail
  refine Hp.out.mono ?_
  rintro e w0 ⟨rfl, hE0⟩
  go_wp2_with fail
  refine (Hc.out _ hE0).mono ?_
  rintro e w1 ⟨rfl, hE1⟩
  go_wp2_with fail
  go_ret
  exact ⟨rfl, hE0.trans hE1⟩
def resV (l : List Rat) (v : Value) : Value := if szE l = 0 then .tuple #[v, .int .i64 0] else .tuple #[.slice none 0 0, .int .i64 4]
theorem tuResult_any {w : World} {pa : Option Addr} {np cp : Nat} {v : Value} {l : List Rat} (hpc : ∀ W, Ext w W → Calls Tryz.prog 84 #[.slice pa np cp] W fun e w' => e = .returned (.int .i64 0) ∧ Ext W w') (hs : SzR w v l) (hl : l.length = np) (hb : ∀ r ∈ l, NdQ 400 r) (h1000 : np ≤ 1000000) (hL : Laid w) :
    Calls Tryz.prog 64 #[.slice pa np cp, v] w fun e w' => e = .returned (resV l v) ∧ Ext w w' := by
  have Hc := Lib.hid (fun W (hW : Ext w W) => szCheck_all (pa := pa) (cp := cp) (fun W2 h2 => hpc W2 (hW.trans h2)) (hs.ext hW) hl hb h1000 (hL.ext hW))
  have hv : resV l v = if szE l = 0 then .tuple #[v, .int .i64 0] else .tuple #[.slice none 0 0, .int .i64 4] := rfl
  obtain ⟨sa, gb, cap, rfl, _, _, _⟩ := hs
  generalize szE l = z at *
  clear hpc hl hb hL
  by_cases hz : z = 0
  · subst hz
    rw [if_pos rfl] at hv
    have Hv := Lib.hid hv
    clear hv
    go_enter Tryz.func64, Tryz.ntmps64
    go_wp2_with fail
    refine (Hc.out _ (Ext.refl w)).mono ?_
    rintro e w1 ⟨rfl, hE1⟩
    go_wp2_with fail
    go_ret2
    exact ⟨ret_val Hv.out.symm, hE1⟩
  · rw [if_neg hz] at hv
    have Hv := Lib.hid hv
    have hz2 : (z == 0) = false := beq_eq_false_iff_ne.2 hz
    have hz3 : (z != 0) = true := by simp [bne, hz2]
    clear hv
    go_enter Tryz.func64, Tryz.ntmps64
    go_wp2_with fail
    refine (Hc.out _ (Ext.refl w)).mono ?_
    rintro e w1 ⟨rfl, hE1⟩
    go_wp2_with fail
    go_ret2
    exact ⟨ret_val Hv.out.symm, hE1⟩
end Go.Proofs.YtdidbebgbinncaaGreatDoor
namespace Go.Proofs.YtdidbebgbinncaaGreatDoor
open Go.RowKit Go.Sort
theorem mzE_bg {n : Nat} {x : List Int} (h : mzE n x = 0) (hn : n ≤ 64) : bgE n x = 0 := by
  obtain ⟨h1, h2⟩ := mzE_zero h
  have hc : chkRow x = 0 := by
    unfold chkRow
    rw [if_neg (by omega), if_neg]
    intro h3
    rw [List.any_eq_true] at h3
    obtain ⟨z, hz, hg⟩ := h3
    have := h2 z hz
    unfold grt at hg
    simp at hg
    omega
  unfold bgE
  rw [if_pos hc, if_pos h1]
def tuE (np : Nat) (M : Mx) (x : List Int) : Int := if mzE np x = 0 then (if smallB (tmpL M x) = true then 0 else 4) else mzE np x
def tuL (np : Nat) (M : Mx) (G : List (List Rat)) (x : List Int) : List Rat := cmbQ G (nbL (tmpL M x)) np
@[simp] theorem tuL_length (np : Nat) (M : Mx) (G : List (List Rat)) (x : List Int) : (tuL np M G x).length = np := by simp [tuL]
def TePost (w : World) (np : Nat) (M : Mx) (G : List (List Rat)) (x : List Int) (e : Ending) (w' : World) : Prop :=
  Ext w w' ∧ ((tuE np M x ≠ 0 ∧ e = .returned (.tuple #[.slice none 0 0, .int .i64 (tuE np M x)])) ∨ (tuE np M x = 0 ∧ ∃ g, e = .returned (.tuple #[slv g np np, .int .i64 0]) ∧ w.heap.size ≤ g ∧ SzO w.heap.size w' g (tuL np M G x)))
theorem nbL_nd {x : List Int} {E : Nat} (hx : ∀ z ∈ x, -1000000000 ≤ z ∧ z ≤ 1000000000) (hE : 10 ≤ E) : ∀ r ∈ nbL x, NdQ E r := fun r hr => by
  obtain ⟨z, hz, rfl⟩ := List.mem_map.1 hr
  refine NdQ.of_int ?_
  have := hx z hz
  exact Nat.le_trans (nDigits_le (u := z.natAbs) (k := 10) (by omega) (by omega)) hE
theorem tuL_nd {np : Nat} {M : Mx} {G : List (List Rat)} {x : List Int} (hG : ∀ l ∈ G, ShQ l) (hx : smallB (tmpL M x) = true) (hk : G.length ≤ 4) : ∀ r ∈ tuL np M G x, NdQ 200 r := fun r hr => by
  unfold tuL cmbQ at hr
  obtain ⟨c, _, rfl⟩ := List.mem_map.1 hr
  refine (sumR_nd (E := 40) _ fun k _ => cmbF_nd (E := 30) (F := 10) (fun s hs => shQ_nd (hG s hs) (by omega)) (nbL_nd (smallB_iff.1 hx) (by omega)) (by omega) (by omega)).mono ?_
  have : G.length * 41 ≤ 4 * 41 := Nat.mul_le_mul_right _ hk
  omega
set_option maxRecDepth 100000 in
set_option maxHeartbeats 4000000 in
theorem tempered_any {w : World} {P : List Int} {C M : Mx} {G : List (List Rat)} {sp : Option Addr} {cp : Nat} {sc : Option Addr} {lc cc : Nat} {sm : Option Addr} {lm cm : Nat} {sg : Option Addr} {lg cg : Nat} {sx : Option Addr} {nx cx : Nat} {x : List Int} (h : TuV w P C M G sp cp sc lc cc sm lm cm sg lg cg) (hx : RowR w (.slice sx nx cx) x) (hL : Laid w) :
    Calls Tryz.prog 63 #[tuS P sp cp sc lc cc sm lm cm sg lg cg, .slice sx nx cx] w (TePost w P.length M G x) := by
  have hck := Lib.hid (fun W (hW : Ext w W) => tuCheck_any (h.ext hW) (hL.ext hW))
  obtain ⟨hT, hG, hln, hcl, hsh⟩ := h
  have hm4 := hT.m4
  have hp4 := hT.ok.p4
  have hmc := Lib.hid (hT.mchk hx)
  have hte := Lib.hid (fun W (hW : Ext w W) => Temper_any (hT.ext hW) (hx.ext hW) (hL.ext hW))
  have hX := (Ext.refl w).alloc (.cells #[.slice sp P.length cp, .slice sc lc cc, .slice sm lm cm, .slice sg lg cg] 44)
  have x0 : (w.alloc (.cells #[.slice sp P.length cp, .slice sc lc cc, .slice sm lm cm, .slice sg lg cg] 44)).cell? ⟨w.heap.size, 0, none⟩ = some (.slice sp P.length cp) := by go_simp
  have x1 : (w.alloc (.cells #[.slice sp P.length cp, .slice sc lc cc, .slice sm lm cm, .slice sg lg cg] 44)).cell? ⟨w.heap.size, 1, none⟩ = some (.slice sc lc cc) := by go_simp
  have x2 : (w.alloc (.cells #[.slice sp P.length cp, .slice sc lc cc, .slice sm lm cm, .slice sg lg cg] 44)).cell? ⟨w.heap.size, 2, none⟩ = some (.slice sm lm cm) := by go_simp
  have x3 : (w.alloc (.cells #[.slice sp P.length cp, .slice sc lc cc, .slice sm lm cm, .slice sg lg cg] 44)).cell? ⟨w.heap.size, 3, none⟩ = some (.slice sg lg cg) := by go_simp
  obtain ⟨y, hy⟩ : ∃ y, y = mzE P.length x := ⟨_, rfl⟩
  rw [← hy] at hmc
  have Hy := Lib.hid hy
  clear hy
  by_cases hy0 : y = 0
  · have h9 : mzE P.length x = 0 := by rw [← Hy.out]; exact hy0
    have hp64 : P.length ≤ 64 := Nat.le_trans hp4 (by decide)
    have hbg := mzE_bg (n := P.length) (x := x) h9 hp64
    have htu : tuE P.length M x = if smallB (tmpL M x) = true then 0 else 4 := by unfold tuE; rw [if_pos h9]
    have Hbg := Lib.hid hbg
    have Htu := Lib.hid htu
    have HL := Lib.hid hL
    have Hnum := Lib.hid (fun W v (hW : Ext w W) (hv : RowR W v (tmpL M x)) (hs : smallB (tmpL M x) = true) => numbers_any (w := W) (v := v) hv (by rw [tmpL_length]; omega) (fun z hz => by have := smallB_iff.1 hs z hz; unfold I64; omega) (hL.ext hW))
    have Hcmb := Lib.hid (fun W v (hW : Ext w W) (hv : SzR W v (nbL (tmpL M x))) (hs : smallB (tmpL M x) = true) => combine_any (pa := sp) (cp := cp) (hG.ext hW) hv hcl (by rw [nbL_length, tmpL_length]; omega) (fun s hs => shQ_nd (hsh s hs) (by omega)) (nbL_nd (smallB_iff.1 hs) (by omega)) (by omega) (by omega) (hL.ext hW))
    have hdef : tuL P.length M G x = cmbQ G (nbL (tmpL M x)) P.length := rfl
    rw [← hdef] at Hcmb
    subst hy0
    clear h9 hp64 hbg htu hdef hT hG hln hcl hsh hm4 hp4 hx hL
    go_enter Tryz.func63, Tryz.ntmps63
    go_wp2_with fail
    refine (hck.out _ hX).mono ?_
    rintro e X1 ⟨rfl, hE1⟩
    have e1 := hX.trans hE1
    replace x0 := hE1.cell x0
    replace x1 := hE1.cell x1
    replace x2 := hE1.cell x2
    replace x3 := hE1.cell x3
    clear hck hX hE1
    go_wp2_with fail
    refine (hmc.out _ e1).mono ?_
    rintro e X2 ⟨rfl, hE2⟩
    have e2 := e1.trans hE2
    replace x0 := hE2.cell x0
    replace x1 := hE2.cell x1
    replace x2 := hE2.cell x2
    replace x3 := hE2.cell x3
    clear hmc e1 hE2
    go_wp2_with fail
    refine (hte.out _ e2).mono ?_
    rintro e X3 ⟨hE3, (⟨_, hs, v, rfl, hv⟩ | ⟨_, hs, rfl⟩ | ⟨q, _⟩)⟩
    · have e3 := e2.trans hE3
      have Hs := Lib.hid hs
      have H0 := Lib.hid (show tuE P.length M x = 0 by rw [Htu.out, if_pos hs])
      have Hv := Lib.hid hv
      obtain ⟨va, vl, vc, rfl⟩ := RowV.slice hv
      replace x3 := hE3.cell x3
      have hw3 := e3.size
      clear hv hs hte e2 hE3 x0 x1 x2
      go_wp2_with fail
      have d0 : Ext X3 X3.drew := (Ext.refl X3).drew
      refine wp_region_held_tail (S := fun W => Ext X3 W) 6 (by kernel_rfl) (by simp) ?_
      intro inv
      generalize X3.drew = X4 at *
      refine wpAnyLH_take (i := 0) (v := .slice sp P.length cp) rfl (by kernel_rfl) (fun _ _ _ h => h) (.inl ⟨by rfl, fun W hW => by go_simp⟩) d0 inv ?_
      intro inv
      go_simp
      refine wpAnyLH_take (i := 1) (v := .pointer (some ⟨w.heap.size, 3, none⟩)) rfl (by kernel_rfl) (fun _ _ _ h => h) (.inl ⟨by rfl, fun W hW => by go_simp⟩) d0 inv ?_
      intro inv
      go_simp
      refine wpAnyLH_take (i := 2) (v := .slice sg lg cg) rfl (by kernel_rfl) (fun _ _ _ h => h) (.inl ⟨by rfl, fun W hW => by have z0 := hW.cell x3; go_simp⟩) d0 inv ?_
      intro inv
      go_simp
      refine wpAnyLH_take (i := 3) (v := .slice va vl vc) rfl (by kernel_rfl) (fun _ _ _ h => h) (.inl ⟨by rfl, fun W hW => by go_simp⟩) d0 inv ?_
      intro inv
      go_simp
      refine wpAnyLH_oneI (i := 4) rfl (by kernel_rfl) inv (fun inv K0 hK0 => ?_)
      go_simp
      refine (Hnum.out _ _ (e3.trans d0) (Hv.out.row.ext d0) Hs.out).mono ?_
      rintro e X5 ⟨⟨u, rfl, hu⟩, hG1⟩
      have d1 := d0.trans hG1
      have Hu := Lib.hid hu.read
      obtain ⟨ua, ul, uc, rfl⟩ := hu.slice
      refine hK0 _ _ d1 ?_
      clear hK0 hu
      refine wpAnyLH_oneI (i := 5) rfl (by kernel_rfl) inv (fun inv K0 hK0 => ?_)
      go_simp
      refine (Hcmb.out _ _ (e3.trans d1) Hu.out Hs.out).mono ?_
      rintro e X6 ⟨⟨gq, rfl, hgq, hO⟩, hG2⟩
      have d2 := d1.trans hG2
      have HO := Lib.hid hO
      refine hK0 _ _ d2 ?_
      clear hK0 hO
      refine wpAnyLH_end (by kernel_rfl) ?_
      have hg9 : w.heap.size ≤ gq := by have := d1.size; omega
      have HO9 := Lib.hid (HO.out.mono (B' := w.heap.size) (by have := d1.size; omega))
      have e9 := e3.trans d2
      clear HO inv d0 d1 d2 hG1 hG2 hgq x3 Hnum Hcmb Hu Hv
      go_wp2_with fail
      go_ret2
      exact ⟨e9, .inr ⟨H0.out, gq, rfl, hg9, HO9.out⟩⟩
    · have H4 := Lib.hid (show tuE P.length M x = 4 by rw [Htu.out, hs]; rfl)
      clear hs
      go_wp2_with fail
      go_ret2
      exact ⟨e2.trans hE3, .inl ⟨by rw [H4.out]; decide, ret_val (congrArg (fun z => Value.tuple #[.slice none 0 0, .int .i64 z]) H4.out.symm)⟩⟩
    · exact absurd Hbg.out q
  · have htu : tuE P.length M x = y := by unfold tuE; rw [← Hy.out, if_neg hy0]
    have Htu := Lib.hid htu
    have h2 : (y == 0) = false := beq_eq_false_iff_ne.2 hy0
    have h3 : (y != 0) = true := by simp [bne, h2]
    have Hy0 := Lib.hid hy0
    clear hy0 htu hT hG hln hcl hsh hm4 hp4 hx hL
    go_enter Tryz.func63, Tryz.ntmps63
    go_wp2_with fail
    refine (hck.out _ hX).mono ?_
    rintro e X1 ⟨rfl, hE1⟩
    have e1 := hX.trans hE1
    replace x0 := hE1.cell x0
    clear hck hX hE1
    go_wp2_with fail
    refine (hmc.out _ e1).mono ?_
    rintro e X2 ⟨rfl, hE2⟩
    have e2 := e1.trans hE2
    clear hmc e1 hE2
    go_wp2_with fail
    go_ret2
    exact ⟨e2, .inl ⟨by rw [Htu.out]; exact Hy0.out, ret_val (congrArg (fun z => Value.tuple #[.slice none 0 0, .int .i64 z]) Htu.out.symm)⟩⟩
  end Go.Proofs.YtdidbebgbinncaaGreatDoor
namespace Go.Proofs.YtdidbebgbinncaaGreatDoor
open Go.RowKit Go.Sort
theorem tuE_zero {np : Nat} {M : Mx} {x : List Int} (h : tuE np M x = 0) : mzE np x = 0 ∧ smallB (tmpL M x) = true := by
  unfold tuE at h
  split at h
  · rename_i h1
    split at h
    · rename_i h2; exact ⟨h1, h2⟩
    · cases h
  · rename_i h1; exact absurd h h1
theorem tuResult_yes {w : World} {pa : Option Addr} {np cp : Nat} {v : Value} {l : List Rat} (h0 : szE l = 0) (hpc : ∀ W, Ext w W → Calls Tryz.prog 84 #[.slice pa np cp] W fun e w' => e = .returned (.int .i64 0) ∧ Ext W w') (hs : SzR w v l) (hl : l.length = np) (hb : ∀ r ∈ l, NdQ 400 r) (h1000 : np ≤ 1000000) (hL : Laid w) :
    Calls Tryz.prog 64 #[.slice pa np cp, v] w fun e w' => e = .returned (.tuple #[v, .int .i64 0]) ∧ Ext w w' := by
  have h := tuResult_any hpc hs hl hb h1000 hL (cp := cp)
  unfold resV at h
  rw [if_pos h0] at h; exact h
theorem tuResult_no {w : World} {pa : Option Addr} {np cp : Nat} {v : Value} {l : List Rat} (h0 : szE l ≠ 0) (hpc : ∀ W, Ext w W → Calls Tryz.prog 84 #[.slice pa np cp] W fun e w' => e = .returned (.int .i64 0) ∧ Ext W w') (hs : SzR w v l) (hl : l.length = np) (hb : ∀ r ∈ l, NdQ 400 r) (h1000 : np ≤ 1000000) (hL : Laid w) :
    Calls Tryz.prog 64 #[.slice pa np cp, v] w fun e w' => e = .returned (.tuple #[.slice none 0 0, .int .i64 4]) ∧ Ext w w' := by
  have h := tuResult_any hpc hs hl hb h1000 hL (cp := cp)
  unfold resV at h
  rw [if_neg h0] at h; exact h
end Go.Proofs.YtdidbebgbinncaaGreatDoor
