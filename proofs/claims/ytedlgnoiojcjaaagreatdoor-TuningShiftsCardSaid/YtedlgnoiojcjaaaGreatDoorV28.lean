/- Part 28 of the proof of the claim: contracts of the functions that it reaches, and plain laws; no condition. -/
import Derived.Test.YtedlgnoiojcjaaaGreatDoorV26
import Derived.Test.YtedlgnoiojcjaaaGreatDoorV27
import Derived.Test.YtedlgnoiojcjaaaGreatDoorV22
set_option maxRecDepth 100000
namespace Go.Proofs.YtedlgnoiojcjaaaGreatDoor
open Go.RowKit Go.Sort
theorem shQ_nd {l : List Rat} (h : ShQ l) {E : Nat} (hE : 30 ≤ E) : ∀ r ∈ l, NdQ E r := fun r hr => ⟨by have := (h r hr).1; omega, by have := (h r hr).2; omega⟩
def shB (n d : Int) : Bool := decide (nd n ≤ 30) && decide (nd d ≤ 30)
theorem szshort_all {n d : Int} (hn : nd n ≤ 400) (h0 : 0 < d) (w : World) :
  Calls Tryz.prog 126 #[.agg #[I n, I d]] w fun e w' => e = .returned (.bool (shB n d)) ∧ Ext w w' := by
 have h1 := Lib.hid (fun W => Abs_any (z := n) (by unfold LIM; omega) W)
 have l1 : (Lib.itoa (n.natAbs : Int)).length = nd n := by
  rw [itoa_nat, Lib.decDigits_length]; rfl
 have l2 : (Lib.itoa d).length = nd d := by
  rw [itoa_pos (by omega), Lib.decDigits_length]; rfl
 have hX : Ext w (w.alloc (.cells #[I n, I d] 63)) := (Ext.refl w).alloc _
 have HO := two_alloc w 63 (I n) (I d)
 have c0 : (w.alloc (.cells #[I n, I d] 63)).cell? ⟨w.heap.size, 0, none⟩ = some (I n) := HO.cell (j := 0) (by simp)
 have c1 : (w.alloc (.cells #[I n, I d] 63)).cell? ⟨w.heap.size, 1, none⟩ = some (I d) := HO.cell (j := 1) (by simp)
 have hb : shB n d = (decide (nd n ≤ 30) && decide (nd d ≤ 30)) := rfl
 rw [← l1, ← l2] at hb
 have Hb := Lib.hid hb
 clear HO hn h0 hb
 go_enter Tryz.func126, Tryz.ntmps126
 go_wp2_with fail
 refine (h1.out _).mono ?_
 rintro e w1 ⟨rfl, hE1⟩
 have c0 := hE1.cell c0
 have c1 := hE1.cell c1
 have e1 := hX.trans hE1
 clear l1 l2
 unfold I S at c1 ⊢
 generalize Lib.itoa (n.natAbs : Int) = la at *
 generalize Lib.itoa d = lb at *
 by_cases i1 : la.length ≤ 30
 ·have j1 : (la.length : Int) ≤ 30 := by omega
  by_cases i2 : lb.length ≤ 30
  ·have j2 : (lb.length : Int) ≤ 30 := by omega
   rw [decide_eq_true i1, decide_eq_true i2] at Hb
   clear i1 i2
   go_wp2_with fail
   go_ret
   exact ⟨by rw [Hb.out]; rfl, e1⟩
  ·have j2 : ¬ (lb.length : Int) ≤ 30 := by omega
   rw [decide_eq_true i1, decide_eq_false i2] at Hb
   clear i1 i2
   go_wp2_with fail
   go_ret
   exact ⟨ret_val (congrArg Value.bool (by rw [Hb.out, decide_eq_false (show ¬ (lb.length : Int) ≤ 30 by omega)]; rfl)), e1⟩
 ·have j1 : ¬ (la.length : Int) ≤ 30 := by omega
  rw [decide_eq_false i1] at Hb
  clear i1
  go_wp2_with fail
  go_ret
  exact ⟨by rw [Hb.out]; rfl, e1⟩
def szE (l : List Rat) : Int := if l.all (fun r => shB r.num r.den) then 0 else 4
theorem szE_sh {l : List Rat} (h : ShQ l) : szE l = 0 := by
 unfold szE
 rw [if_pos]
 rw [List.all_eq_true]
 intro r hr
 obtain ⟨h1, h2⟩ := h r hr
 unfold shB
 rw [decide_eq_true h1, decide_eq_true h2]; rfl
theorem szE_zero {l : List Rat} (h : szE l = 0) : ShQ l := by
 unfold szE at h
 split at h
 ·rename_i h2
  rw [List.all_eq_true] at h2
  intro r hr
  have := h2 r hr
  unfold shB at this
  simpa using this
 ·cases h
set_option maxHeartbeats 1000000 in
theorem szcheck_all {w : World} {pa : Option Addr} {np cp : Nat} {v : Value} {l : List Rat} (hs : SzR w v l) (hl : l.length = np) (hb : ∀ r ∈ l, NdQ 400 r) (h1000 : np ≤ 1000000) (hL : Laid w) :
  Calls Tryz.prog 73 #[.slice pa np cp, v] w fun e w' => e = .returned (.int .i64 (szE l)) ∧ Ext w w' := by
 obtain ⟨sa, gb, go, cap, rfl, hc, ha, hr⟩ := hs
 have Hr := Lib.hid hr
 have Ha := Lib.hid ha
 have Hb := Lib.hid hb
 have HL := Lib.hid hL
 have Hl := Lib.hid hl
 rw [hl] at hc ⊢
 clear hr ha hb hL hl
 go_enter Tryz.func73, Tryz.ntmps73
 go_wp2_with fail
 go_loopw [14] (fun i wr => ∃ j : Nat, j ≤ np ∧ i = .int .i64 j ∧ Hid (∀ t (h : t < l.length), t < j → shB l[t].num l[t].den = true) ∧ Ext w wr) (fun i _ => np - (intOf i).toNat)
 case atStart => exact ⟨0, Nat.zero_le _, by go_num, Lib.hid (fun t _ h => by omega), Ext.refl _⟩
 case round =>
  obtain ⟨j, hj, rfl, HA, hE⟩ := hrel
  generalize wr = X at *
  by_cases hlt : j < np
  ·have hjl : j < l.length := by rw [Hl.out]; exact hlt
   obtain rfl := Ha.out (by omega)
   obtain ⟨k0, k1⟩ := Hr.out j hjl
   have hbr := Hb.out l[j] (List.getElem_mem hjl)
   have x0 := hE.cell k0
   have x1 := hE.cell k1
   have hpos := qR_pos l[j]
   have hcop := qR_cop l[j]
   simp only [qR] at hpos hcop
   have hck := Lib.hid (fun W (hW : Ext X W) => fcheck_any (n := l[j].num) (d := l[j].den) hbr.1 hbr.2 hpos hcop (HL.out.ext (hE.trans hW)))
   have hsh := Lib.hid (fun W => szshort_all (n := l[j].num) (d := l[j].den) hbr.1 hpos W)
   have hji : (j : Int) < (np : Int) := by omega
   have Hno := Lib.hid (fun (h : shB l[j].num l[j].den = false) => show szE l = 4 by
    unfold szE
    rw [if_neg]
    intro h2
    rw [List.all_eq_true] at h2
    have := h2 l[j] (List.getElem_mem hjl)
    rw [h] at this; cases this)
   have Hyes := Lib.hid (fun (h : shB l[j].num l[j].den = true) t (ht : t < l.length) (htj : t < j + 1) => show shB l[t].num l[t].den = true by
    by_cases e : t = j
    ·subst e; exact h
    ·exact HA.out t ht (by omega))
   clear k0 k1 hbr hpos hcop HA
   generalize hb : shB l[j].num l[j].den = b at *
   clear hb
   generalize l[j].num = n at *
   generalize ((l[j].den : Nat) : Int) = d at *
   clear hjl
   have HO := two_alloc X 63 (I n) (I d)
   have hX : Ext X (X.alloc (.cells #[I n, I d] 63)) := (Ext.refl X).alloc _
   have c0 : (X.alloc (.cells #[I n, I d] 63)).cell? ⟨X.heap.size, 0, none⟩ = some (I n) := HO.cell (j := 0) (by simp)
   have c1 : (X.alloc (.cells #[I n, I d] 63)).cell? ⟨X.heap.size, 1, none⟩ = some (I d) := HO.cell (j := 1) (by simp)
   clear HO
   go_wp2_with fail
   refine (hck.out _ hX).mono ?_
   rintro e w1 ⟨rfl, hE1⟩
   have c0 := hE1.cell c0
   have c1 := hE1.cell c1
   have e1 := hX.trans hE1
   go_wp2_with fail
   refine (hsh.out _).mono ?_
   rintro e w2 ⟨rfl, hE2⟩
   have e2 := hE.trans (e1.trans hE2)
   clear hck hsh c0 c1 x0 x1
   cases b
   ·have H4 := Lib.hid (Hno.out rfl)
    clear Hno Hyes
    go_wp2_with fail
    go_ret
    exact ⟨ret_val (congrArg (Value.int .i64) H4.out.symm), e2⟩
   ·have HA := Lib.hid (Hyes.out rfl)
    clear Hno Hyes
    go_wp2_with fail
    go_roundw
    case rel => exact ⟨j + 1, by omega, by go_num, HA, e2⟩
    case measure => simp [intOf] <;> omega
  ·have hje : j = np := by omega
   have hji : ¬ (j : Int) < (np : Int) := by omega
   have H0 := Lib.hid (show szE l = 0 by
    unfold szE
    rw [if_pos]
    rw [List.all_eq_true]
    intro r hr
    obtain ⟨t, ht, rfl⟩ := List.getElem_of_mem hr
    exact HA.out t ht (by have := Hl.out; omega))
   clear hlt HA
   go_wp2_with fail
   go_ret
   exact ⟨ret_val (congrArg (Value.int .i64) H0.out.symm), hE⟩
theorem szCheck_all {w : World} {pa : Option Addr} {np cp : Nat} {v : Value} {l : List Rat} (hpc : ∀ W, Ext w W → Calls Tryz.prog 50 #[.slice pa np cp] W fun e w' => e = .returned (.int .i64 0) ∧ Ext W w') (hs : SzR w v l) (hl : l.length = np) (hb : ∀ r ∈ l, NdQ 400 r) (h1000 : np ≤ 1000000) (hL : Laid w) :
  Calls Tryz.prog 22 #[.slice pa np cp, v] w fun e w' => e = .returned (.int .i64 (szE l)) ∧ Ext w w' := by
 have Hc := Lib.hid (fun W (hW : Ext w W) => szcheck_all (pa := pa) (cp := cp) (hs.ext hW) hl hb h1000 (hL.ext hW))
 have Hp := Lib.hid (hpc w (Ext.refl w))
 obtain ⟨sa, gb, go, cap, rfl, _, _, _⟩ := hs
 generalize szE l = z at *
 clear hpc hl hb hL
 go_enter Tryz.func22, Tryz.ntmps22
 go_wp2_with fail
 refine Hp.out.mono ?_
 rintro e w0 ⟨rfl, hE0⟩
 go_wp2_with fail
 refine (Hc.out _ hE0).mono ?_
 rintro e w1 ⟨rfl, hE1⟩
 go_wp2_with fail
 go_ret
 exact ⟨rfl, hE0.trans hE1⟩
def resV (l : List Rat) (v : Value) : Value := if szE l = 0 then .tuple #[v, .int .i64 0] else .tuple #[.slice none 0 0, .int .i64 4]
theorem tuResult_any {w : World} {pa : Option Addr} {np cp : Nat} {v : Value} {l : List Rat} (hpc : ∀ W, Ext w W → Calls Tryz.prog 50 #[.slice pa np cp] W fun e w' => e = .returned (.int .i64 0) ∧ Ext W w') (hs : SzR w v l) (hl : l.length = np) (hb : ∀ r ∈ l, NdQ 400 r) (h1000 : np ≤ 1000000) (hL : Laid w) :
  Calls Tryz.prog 65 #[.slice pa np cp, v] w fun e w' => e = .returned (resV l v) ∧ Ext w w' := by
 have Hc := Lib.hid (fun W (hW : Ext w W) => szCheck_all (pa := pa) (cp := cp) (fun W2 h2 => hpc W2 (hW.trans h2)) (hs.ext hW) hl hb h1000 (hL.ext hW))
 have hv : resV l v = if szE l = 0 then .tuple #[v, .int .i64 0] else .tuple #[.slice none 0 0, .int .i64 4] := rfl
 obtain ⟨sa, gb, go, cap, rfl, _, _, _⟩ := hs
 generalize szE l = z at *
 clear hpc hl hb hL
 by_cases hz : z = 0
 ·subst hz
  rw [if_pos rfl] at hv
  have Hv := Lib.hid hv
  clear hv
  go_enter Tryz.func65, Tryz.ntmps65
  go_wp2_with fail
  refine (Hc.out _ (Ext.refl w)).mono ?_
  rintro e w1 ⟨rfl, hE1⟩
  go_wp2_with fail
  go_ret2
  exact ⟨ret_val Hv.out.symm, hE1⟩
 ·rw [if_neg hz] at hv
  have Hv := Lib.hid hv
  have hz2 : (z == 0) = false := beq_eq_false_iff_ne.2 hz
  have hz3 : (z != 0) = true := by simp [bne, hz2]
  clear hv
  go_enter Tryz.func65, Tryz.ntmps65
  go_wp2_with fail
  refine (Hc.out _ (Ext.refl w)).mono ?_
  rintro e w1 ⟨rfl, hE1⟩
  go_wp2_with fail
  go_ret2
  exact ⟨ret_val Hv.out.symm, hE1⟩
theorem mzE_bg {n : Nat} {x : List Int} (h : mzE n x = 0) (hn : n ≤ 64) : bgE n x = 0 := by
 obtain ⟨h1, h2⟩ := mzE_zero h
 have hc : chkRow x = 0 := by
  unfold chkRow
  rw [if_neg (by omega), if_neg]
  intro h3
  rw [List.any_eq_true] at h3
  obtain ⟨z, hz, hg⟩ := h3
  have := h2 z hz
  unfold grt at hg
  simp at hg
  omega
 unfold bgE
 rw [if_pos hc, if_pos h1]
def tuE (np : Nat) (M : Mx) (x : List Int) : Int := if mzE np x = 0 then (if smallB (tmpL M x) = true then 0 else 4) else mzE np x
def tuL (np : Nat) (M : Mx) (G : List (List Rat)) (x : List Int) : List Rat := cmbQ G (nbL (tmpL M x)) np
@[simp] theorem tuL_length (np : Nat) (M : Mx) (G : List (List Rat)) (x : List Int) : (tuL np M G x).length = np := by simp [tuL]
def TePost (w : World) (np : Nat) (M : Mx) (G : List (List Rat)) (x : List Int) (e : Ending) (w' : World) : Prop :=
 Ext w w' ∧ ((tuE np M x ≠ 0 ∧ e = .returned (.tuple #[.slice none 0 0, .int .i64 (tuE np M x)])) ∨ (tuE np M x = 0 ∧ ∃ g, e = .returned (.tuple #[slv g np np, .int .i64 0]) ∧ w.heap.size ≤ g ∧ SzO w.heap.size w' g (tuL np M G x)))
theorem nbL_nd {x : List Int} {E : Nat} (hx : ∀ z ∈ x, -1000000000 ≤ z ∧ z ≤ 1000000000) (hE : 10 ≤ E) : ∀ r ∈ nbL x, NdQ E r := fun r hr => by
 obtain ⟨z, hz, rfl⟩ := List.mem_map.1 hr
 refine NdQ.of_int ?_
 have := hx z hz
 exact Nat.le_trans (nDigits_le (u := z.natAbs) (k := 10) (by omega) (by omega)) hE
theorem tuL_nd {np : Nat} {M : Mx} {G : List (List Rat)} {x : List Int} (hG : ∀ l ∈ G, ShQ l) (hx : smallB (tmpL M x) = true) (hk : G.length ≤ 4) : ∀ r ∈ tuL np M G x, NdQ 200 r := fun r hr => by
 unfold tuL cmbQ at hr
 obtain ⟨c, _, rfl⟩ := List.mem_map.1 hr
 refine (sumR_nd (E := 40) _ fun k _ => cmbF_nd (E := 30) (F := 10) (fun s hs => shQ_nd (hG s hs) (by omega)) (nbL_nd (smallB_iff.1 hx) (by omega)) (by omega) (by omega)).mono ?_
 have : G.length * 41 ≤ 4 * 41 := Nat.mul_le_mul_right _ hk
 omega
set_option maxHeartbeats 4000000 in
theorem tempered_any {w : World} {P : List Int} {C M : Mx} {G : List (List Rat)} {sp : Option Addr} {cp : Nat} {sc : Option Addr} {lc cc : Nat} {sm : Option Addr} {lm cm : Nat} {sg : Option Addr} {lg cg : Nat} {sx : Option Addr} {nx cx : Nat} {x : List Int} (h : TuV w P C M G sp cp sc lc cc sm lm cm sg lg cg) (hx : RowR w (.slice sx nx cx) x) (hL : Laid w) :
  Calls Tryz.prog 64 #[tuS P sp cp sc lc cc sm lm cm sg lg cg, .slice sx nx cx] w (TePost w P.length M G x) := by
 have hck := Lib.hid (fun W (hW : Ext w W) => tuCheck_any (h.ext hW) (hL.ext hW))
 obtain ⟨hT, hG, hln, hcl, hsh⟩ := h
 have hm4 := hT.m4
 have hp4 := hT.ok.p4
 have hmc := Lib.hid (hT.mchk hx)
 have hte := Lib.hid (fun W (hW : Ext w W) => Temper_any (hT.ext hW) (hx.ext hW) (hL.ext hW))
 have hX := (Ext.refl w).alloc (.cells #[.slice sp P.length cp, .slice sc lc cc, .slice sm lm cm, .slice sg lg cg] 44)
 have x0 : (w.alloc (.cells #[.slice sp P.length cp, .slice sc lc cc, .slice sm lm cm, .slice sg lg cg] 44)).cell? ⟨w.heap.size, 0, none⟩ = some (.slice sp P.length cp) := by go_simp
 have x1 : (w.alloc (.cells #[.slice sp P.length cp, .slice sc lc cc, .slice sm lm cm, .slice sg lg cg] 44)).cell? ⟨w.heap.size, 1, none⟩ = some (.slice sc lc cc) := by go_simp
 have x2 : (w.alloc (.cells #[.slice sp P.length cp, .slice sc lc cc, .slice sm lm cm, .slice sg lg cg] 44)).cell? ⟨w.heap.size, 2, none⟩ = some (.slice sm lm cm) := by go_simp
 have x3 : (w.alloc (.cells #[.slice sp P.length cp, .slice sc lc cc, .slice sm lm cm, .slice sg lg cg] 44)).cell? ⟨w.heap.size, 3, none⟩ = some (.slice sg lg cg) := by go_simp
 obtain ⟨y, hy⟩ : ∃ y, y = mzE P.length x := ⟨_, rfl⟩
 rw [← hy] at hmc
 have Hy := Lib.hid hy
 clear hy
 by_cases hy0 : y = 0
 ·have h9 : mzE P.length x = 0 := by rw [← Hy.out]; exact hy0
  have hp64 : P.length ≤ 64 := Nat.le_trans hp4 (by decide)
  have hbg := mzE_bg (n := P.length) (x := x) h9 hp64
  have htu : tuE P.length M x = if smallB (tmpL M x) = true then 0 else 4 := by unfold tuE; rw [if_pos h9]
  have Hbg := Lib.hid hbg
  have Htu := Lib.hid htu
  have HL := Lib.hid hL
  have Hnum := Lib.hid (fun W v (hW : Ext w W) (hv : RowR W v (tmpL M x)) (hs : smallB (tmpL M x) = true) => numbers_any (w := W) (v := v) hv (by rw [tmpL_length]; omega) (fun z hz => by have := smallB_iff.1 hs z hz; unfold I64; omega) (hL.ext hW))
  have Hcmb := Lib.hid (fun W v (hW : Ext w W) (hv : SzR W v (nbL (tmpL M x))) (hs : smallB (tmpL M x) = true) => combine_any (pa := sp) (cp := cp) (hG.ext hW) hv hcl (by rw [nbL_length, tmpL_length]; omega) (fun s hs => shQ_nd (hsh s hs) (by omega)) (nbL_nd (smallB_iff.1 hs) (by omega)) (by omega) (by omega) (hL.ext hW))
  have hdef : tuL P.length M G x = cmbQ G (nbL (tmpL M x)) P.length := rfl
  rw [← hdef] at Hcmb
  subst hy0
  clear h9 hp64 hbg htu hdef hT hG hln hcl hsh hm4 hp4 hx hL
  go_enter Tryz.func64, Tryz.ntmps64
  go_wp2_with fail
  refine (hck.out _ hX).mono ?_
  rintro e X1 ⟨rfl, hE1⟩
  have e1 := hX.trans hE1
  replace x0 := hE1.cell x0
  replace x1 := hE1.cell x1
  replace x2 := hE1.cell x2
  replace x3 := hE1.cell x3
  clear hck hX hE1
  go_wp2_with fail
  refine (hmc.out _ e1).mono ?_
  rintro e X2 ⟨rfl, hE2⟩
  have e2 := e1.trans hE2
  replace x0 := hE2.cell x0
  replace x1 := hE2.cell x1
  replace x2 := hE2.cell x2
  replace x3 := hE2.cell x3
  clear hmc e1 hE2
  go_wp2_with fail
  refine (hte.out _ e2).mono ?_
  rintro e X3 ⟨hE3, (⟨_, hs, v, rfl, hv⟩ | ⟨_, hs, rfl⟩ | ⟨q, _⟩)⟩
  ·have e3 := e2.trans hE3
   have Hs := Lib.hid hs
   have H0 := Lib.hid (show tuE P.length M x = 0 by rw [Htu.out, if_pos hs])
   have Hv := Lib.hid hv
   obtain ⟨va, vl, vc, rfl⟩ := RowV.slice hv
   replace x3 := hE3.cell x3
   have hw3 := e3.size
   clear hv hs hte e2 hE3 x0 x1 x2
   go_wp2_with fail
   have d0 : Ext X3 X3.drew := (Ext.refl X3).drew
   refine wp_region_held_tail (S := fun W => Ext X3 W) 6 (by kernel_rfl) (by simp) ?_
   intro inv
   generalize X3.drew = X4 at *
   refine wpAnyLH_take (i := 0) (v := .slice sp P.length cp) rfl (by kernel_rfl) (fun _ _ _ h => h) (.inl ⟨by rfl, fun W hW => by go_simp⟩) d0 inv ?_
   intro inv
   go_simp
   refine wpAnyLH_take (i := 1) (v := .pointer (some ⟨w.heap.size, 3, none⟩)) rfl (by kernel_rfl) (fun _ _ _ h => h) (.inl ⟨by rfl, fun W hW => by go_simp⟩) d0 inv ?_
   intro inv
   go_simp
   refine wpAnyLH_take (i := 2) (v := .slice sg lg cg) rfl (by kernel_rfl) (fun _ _ _ h => h) (.inl ⟨by rfl, fun W hW => by have z0 := hW.cell x3; go_simp⟩) d0 inv ?_
   intro inv
   go_simp
   refine wpAnyLH_take (i := 3) (v := .slice va vl vc) rfl (by kernel_rfl) (fun _ _ _ h => h) (.inl ⟨by rfl, fun W hW => by go_simp⟩) d0 inv ?_
   intro inv
   go_simp
   refine wpAnyLH_oneI (i := 4) rfl (by kernel_rfl) inv (fun inv K0 hK0 => ?_)
   go_simp
   refine (Hnum.out _ _ (e3.trans d0) (Hv.out.row.ext d0) Hs.out).mono ?_
   rintro e X5 ⟨⟨u, rfl, hu⟩, hG1⟩
   have d1 := d0.trans hG1
   have Hu := Lib.hid hu.read
   obtain ⟨ua, ul, uc, rfl⟩ := hu.slice
   refine hK0 _ _ d1 ?_
   clear hK0 hu
   refine wpAnyLH_oneI (i := 5) rfl (by kernel_rfl) inv (fun inv K0 hK0 => ?_)
   go_simp
   refine (Hcmb.out _ _ (e3.trans d1) Hu.out Hs.out).mono ?_
   rintro e X6 ⟨⟨gq, rfl, hgq, hO⟩, hG2⟩
   have d2 := d1.trans hG2
   have HO := Lib.hid hO
   refine hK0 _ _ d2 ?_
   clear hK0 hO
   refine wpAnyLH_end (by kernel_rfl) ?_
   have hg9 : w.heap.size ≤ gq := by have := d1.size; omega
   have HO9 := Lib.hid (HO.out.mono (B' := w.heap.size) (by have := d1.size; omega))
   have e9 := e3.trans d2
   clear HO inv d0 d1 d2 hG1 hG2 hgq x3 Hnum Hcmb Hu Hv
   go_wp2_with fail
   go_ret2
   exact ⟨e9, .inr ⟨H0.out, gq, rfl, hg9, HO9.out⟩⟩
  ·have H4 := Lib.hid (show tuE P.length M x = 4 by rw [Htu.out, hs]; rfl)
   clear hs
   go_wp2_with fail
   go_ret2
   exact ⟨e2.trans hE3, .inl ⟨by rw [H4.out]; decide, ret_val (congrArg (fun z => Value.tuple #[.slice none 0 0, .int .i64 z]) H4.out.symm)⟩⟩
  ·exact absurd Hbg.out q
 ·have htu : tuE P.length M x = y := by unfold tuE; rw [← Hy.out, if_neg hy0]
  have Htu := Lib.hid htu
  have h2 : (y == 0) = false := beq_eq_false_iff_ne.2 hy0
  have h3 : (y != 0) = true := by simp [bne, h2]
  have Hy0 := Lib.hid hy0
  clear hy0 htu hT hG hln hcl hsh hm4 hp4 hx hL
  go_enter Tryz.func64, Tryz.ntmps64
  go_wp2_with fail
  refine (hck.out _ hX).mono ?_
  rintro e X1 ⟨rfl, hE1⟩
  have e1 := hX.trans hE1
  replace x0 := hE1.cell x0
  clear hck hX hE1
  go_wp2_with fail
  refine (hmc.out _ e1).mono ?_
  rintro e X2 ⟨rfl, hE2⟩
  have e2 := e1.trans hE2
  clear hmc e1 hE2
  go_wp2_with fail
  go_ret2
  exact ⟨e2, .inl ⟨by rw [Htu.out]; exact Hy0.out, ret_val (congrArg (fun z => Value.tuple #[.slice none 0 0, .int .i64 z]) Htu.out.symm)⟩⟩
theorem tuE_zero {np : Nat} {M : Mx} {x : List Int} (h : tuE np M x = 0) : mzE np x = 0 ∧ smallB (tmpL M x) = true := by
 unfold tuE at h
 split at h
 ·rename_i h1
  split at h
  ·rename_i h2; exact ⟨h1, h2⟩
  ·cases h
 ·rename_i h1; exact absurd h h1
theorem tuResult_yes {w : World} {pa : Option Addr} {np cp : Nat} {v : Value} {l : List Rat} (h0 : szE l = 0) (hpc : ∀ W, Ext w W → Calls Tryz.prog 50 #[.slice pa np cp] W fun e w' => e = .returned (.int .i64 0) ∧ Ext W w') (hs : SzR w v l) (hl : l.length = np) (hb : ∀ r ∈ l, NdQ 400 r) (h1000 : np ≤ 1000000) (hL : Laid w) :
  Calls Tryz.prog 65 #[.slice pa np cp, v] w fun e w' => e = .returned (.tuple #[v, .int .i64 0]) ∧ Ext w w' := by
 have h := tuResult_any hpc hs hl hb h1000 hL (cp := cp)
 unfold resV at h
 rw [if_pos h0] at h; exact h
theorem tuResult_no {w : World} {pa : Option Addr} {np cp : Nat} {v : Value} {l : List Rat} (h0 : szE l ≠ 0) (hpc : ∀ W, Ext w W → Calls Tryz.prog 50 #[.slice pa np cp] W fun e w' => e = .returned (.int .i64 0) ∧ Ext W w') (hs : SzR w v l) (hl : l.length = np) (hb : ∀ r ∈ l, NdQ 400 r) (h1000 : np ≤ 1000000) (hL : Laid w) :
  Calls Tryz.prog 65 #[.slice pa np cp, v] w fun e w' => e = .returned (.tuple #[.slice none 0 0, .int .i64 4]) ∧ Ext w w' := by
 have h := tuResult_any hpc hs hl hb h1000 hL (cp := cp)
 unfold resV at h
 rw [if_neg h0] at h; exact h
def dgB (b : Nat) : Nat → Nat → List Nat
 | 0, _ => []
 | n + 1, k => dgB b n (k / b) ++ [k % b]
@[simp] theorem dgB_length (b : Nat) : ∀ n k, (dgB b n k).length = n
 | 0, _ => rfl
 | n + 1, k => by simp [dgB, dgB_length b n]
def bxR (n m k : Nat) : List Int := (dgB (2 * m + 1) n k).map fun (d : Nat) => (d : Int) - m
@[simp] theorem bxR_length (n m k : Nat) : (bxR n m k).length = n := by simp [bxR]
def hgt (P : List Int) (y : List Int) : Nat → Nat
 | 0 => 1
 | k + 1 => hgt P y k * (P.getD k 0).toNat ^ (y.getD k 0).natAbs
end Go.Proofs.YtedlgnoiojcjaaaGreatDoor
namespace Go.Proofs.YtedlgnoiojcjaaaGreatDoor
open Go.RowKit Go.Sort
open Hnf (V Span)
def mtC : Mx := [[4, -4, 1]]
def mtM : Mx := [[1, 0, -4], [0, 1, 4]]
def mtP : List Int := [2, 3, 5]
theorem mtM_isH : IsH 3 [0, 1] mtM where
 rect := by unfold Rect; decide
 len := rfl
 lt := by decide
 inc := fun i k h1 h2 => by
  have : k < 2 := h2
  obtain rfl : k = 1 := by omega
  obtain rfl : i = 0 := by omega
  decide
 left := fun i hi j hj => by
  have : i < 2 := hi
  rcases (show i = 0 ∨ i = 1 by omega) with rfl | rfl
  ·have : j < 0 := hj
   omega
  ·have : j < 1 := hj
   obtain rfl : j = 0 := by omega
   decide
 pos := by decide
 red := fun i k h1 h2 => by
  have : k < 2 := h2
  obtain rfl : k = 1 := by omega
  obtain rfl : i = 0 := by omega
  decide
theorem mtC_isH : IsH 3 [0] mtC where
 rect := by unfold Rect; decide
 len := rfl
 lt := by decide
 inc := fun i k h1 h2 => by
  have : k < 1 := h2
  omega
 left := fun i hi j hj => by
  have : i < 1 := hi
  obtain rfl : i = 0 := by omega
  have : j < 0 := hj
  omega
 pos := by decide
 red := fun i k h1 h2 => by
  have : k < 1 := h2
  omega
theorem vr3 (a b c : Int) (y : V) : dotV 3 (vr [a, b, c]) y = a * y 0 + b * y 1 + c * y 2 := by
 simp [dotV, sumZ, vr]
theorem vr3_at (a b c : Int) (j : Nat) (h : 3 ≤ j) : vr [a, b, c] j = 0 := by
 show [a, b, c].getD j 0 = 0
 rw [List.getD_eq_getElem?_getD, List.getElem?_eq_none (by simpa using h)]; rfl
theorem mt_kM : KerL 3 (latM mtC) mtM := by
 refine ⟨⟨_, mtM_isH⟩, fun y => ⟨fun h => ?_, fun ⟨h1, h2⟩ => ?_⟩⟩
 ·obtain ⟨t, rfl⟩ := span_cmb.1 h
  refine ⟨fun v hv => ?_, fun i hi => ?_⟩
  ·simp only [latM, mtC, List.map_cons, List.map_nil, List.mem_cons, List.not_mem_nil, or_false] at hv
   subst hv
   rw [vr3]
   simp [cmb, sumZ, eM, mtM]
   omega
  ·simp only [cmb, sumZ, mtM, List.length_cons, List.length_nil]
   have e1 : eM [[1, 0, -4], [0, 1, 4]] 0 i = 0 := vr3_at 1 0 (-4) i hi
   have e2 : eM [[1, 0, -4], [0, 1, 4]] 1 i = 0 := vr3_at 0 1 4 i hi
   simp [e1, e2]
 ·have h3 := h1 (vr [4, -4, 1]) (by simp [latM, mtC])
  rw [vr3] at h3
  refine span_cmb.2 ⟨y, ?_⟩
  funext j
  simp only [cmb, sumZ, mtM, List.length_cons, List.length_nil]
  rcases (show j = 0 ∨ j = 1 ∨ j = 2 ∨ 3 ≤ j by omega) with rfl | rfl | rfl | hj
  ·simp [eM]
  ·simp [eM]
  ·simp [eM]; omega
  ·have e1 : eM [[1, 0, -4], [0, 1, 4]] 0 j = 0 := vr3_at 1 0 (-4) j hj
   have e2 : eM [[1, 0, -4], [0, 1, 4]] 1 j = 0 := vr3_at 0 1 4 j hj
   simp [e1, e2, h2 j hj]
theorem mt_kC : KerL 3 (latM mtM) mtC := by
 refine ⟨⟨_, mtC_isH⟩, fun y => ⟨fun h => ?_, fun ⟨h1, h2⟩ => ?_⟩⟩
 ·obtain ⟨t, rfl⟩ := span_cmb.1 h
  refine ⟨fun v hv => ?_, fun i hi => ?_⟩
  ·simp only [latM, mtM, List.map_cons, List.map_nil, List.mem_cons, List.not_mem_nil, or_false] at hv
   rcases hv with rfl | rfl
   ·rw [vr3]; simp [cmb, sumZ, eM, mtC]; omega
   ·rw [vr3]; simp [cmb, sumZ, eM, mtC]; omega
  ·simp only [cmb, sumZ, mtC, List.length_cons, List.length_nil]
   have e1 : eM [[4, -4, 1]] 0 i = 0 := vr3_at 4 (-4) 1 i hi
   simp [e1]
 ·have h3 := h1 (vr [1, 0, -4]) (by simp [latM, mtM])
  have h4 := h1 (vr [0, 1, 4]) (by simp [latM, mtM])
  rw [vr3] at h3 h4
  refine span_cmb.2 ⟨fun _ => y 2, ?_⟩
  funext j
  simp only [cmb, sumZ, mtC, List.length_cons, List.length_nil]
  rcases (show j = 0 ∨ j = 1 ∨ j = 2 ∨ 3 ≤ j by omega) with rfl | rfl | rfl | hj
  ·simp [eM]; omega
  ·simp [eM]; omega
  ·simp [eM]
  ·have e1 : eM [[4, -4, 1]] 0 j = 0 := vr3_at 4 (-4) 1 j hj
   simp [e1, h2 j hj]
theorem mt_ok : TmOK mtP mtC mtM where
 pr := by intro x hx; simp [mtP] at hx; unfold SmP; omega
 inc := fun i h => by
  have : i + 1 < 3 := h
  rcases (show i = 0 ∨ i = 1 by omega) with rfl | rfl
  ·show (2 : Int) < 3; decide
  ·show (3 : Int) < 5; decide
 p0 := by decide
 p4 := by decide
 kM := mt_kM
 kC := mt_kC
 sC := by unfold SmK; decide
 sM := by unfold SmK; decide
 bC := by decide
 bM := by decide
end Go.Proofs.YtedlgnoiojcjaaaGreatDoor
namespace Go.Proofs.YtedlgnoiojcjaaaGreatDoor
open Go.RowKit Go.Sort
theorem row3N {W : World} {b : Nat} {a0 a1 a2 : Int} (h0 : W.cell? ⟨b, 0, none⟩ = some (.int .i64 a0)) (h1 : W.cell? ⟨b, 1, none⟩ = some (.int .i64 a1)) (h2 : W.cell? ⟨b, 2, none⟩ = some (.int .i64 a2)) : RowR W (.slice (some ⟨b, 0, none⟩) 3 3) [a0, a1, a2] :=
 rowN (l := [a0, a1, a2]) rfl fun i hi => by
  have hi3 : i < 3 := hi
  rcases (show i = 0 ∨ i = 1 ∨ i = 2 by omega) with rfl | rfl | rfl
  ·exact h0
  ·exact h1
  ·exact h2
theorem matN {W : World} {b n : Nat} {M : Mx} {vs : List Value} (hn : M.length = n) (hv : vs.length = n) (hc : ∀ i (h : i < vs.length), W.cell? ⟨b, i, none⟩ = some vs[i]) (hr : ∀ i (h : i < M.length) (h' : i < vs.length), RowR W vs[i] M[i]) : MatR W (.slice (some ⟨b, 0, none⟩) n n) M := by
 refine ⟨_, b, 0, n, vs, by rw [hn], by omega, by omega, ⟨fun _ => rfl, fun i u hu => ?_⟩, hr⟩
 obtain ⟨hi, rfl⟩ := List.getElem?_eq_some_iff.1 hu
 rw [Nat.zero_add]; exact hc i hi
theorem mat1N {W : World} {b : Nat} {v0 : Value} {r0 : List Int} (h0 : W.cell? ⟨b, 0, none⟩ = some v0) (k0 : RowR W v0 r0) : MatR W (.slice (some ⟨b, 0, none⟩) 1 1) [r0] :=
 matN (vs := [v0]) rfl rfl (fun i hi => by
  have hi3 : i < 1 := hi
  obtain rfl : i = 0 := by omega
  exact h0) (fun i hi _ => by
  have hi3 : i < 1 := hi
  obtain rfl : i = 0 := by omega
  exact k0)
theorem mat2N {W : World} {b : Nat} {v0 v1 : Value} {r0 r1 : List Int} (h0 : W.cell? ⟨b, 0, none⟩ = some v0) (h1 : W.cell? ⟨b, 1, none⟩ = some v1) (k0 : RowR W v0 r0) (k1 : RowR W v1 r1) : MatR W (.slice (some ⟨b, 0, none⟩) 2 2) [r0, r1] :=
 matN (vs := [v0, v1]) rfl rfl (fun i hi => by
  have hi3 : i < 2 := hi
  rcases (show i = 0 ∨ i = 1 by omega) with rfl | rfl
  ·exact h0
  ·exact h1) (fun i hi _ => by
  have hi3 : i < 2 := hi
  rcases (show i = 0 ∨ i = 1 by omega) with rfl | rfl
  ·exact k0
  ·exact k1)
set_option maxHeartbeats 1000000 in
theorem whole24_any {n : Int} (hn : -9223372036854775808 ≤ n ∧ n ≤ 9223372036854775807) {w : World} (hL : Laid w) :
  Calls Tryz.prog 25 #[.int .i64 n] w fun e w' => e = .returned (RV (n : Rat)) ∧ Ext w w' := by
 have hof := Lib.hid (fun W (hW : Ext w W) => ratOf_any (d := 1) hn (by omega) (by omega) (hL.ext hW))
 rw [show ((n : Rat) / ((1 : Int) : Rat)) = (n : Rat) by grind] at hof
 obtain ⟨r, hr⟩ : ∃ r : Rat, r = (n : Rat) := ⟨_, rfl⟩
 rw [← hr] at hof ⊢
 unfold RV at hof ⊢
 generalize r.num = x at *
 generalize ((r.den : Nat) : Int) = y at *
 have HO := Lib.hid (two_alloc w 63 (.string ⟨#[]⟩) (.string ⟨#[]⟩))
 have hX : Ext w (w.alloc (.cells #[.string ⟨#[]⟩, .string ⟨#[]⟩] 63)) := (Ext.refl w).alloc _
 clear hr hn hL
 go_enter Tryz.func25, Tryz.ntmps25
 go_wp2_with fail
 refine (hof.out _ hX).mono ?_
 rintro e w1 ⟨rfl, hE1⟩
 replace HO := Lib.hid (HO.out.ext hE1)
 replace hX := hX.trans hE1
 clear hof
 have HN := two_alloc w1 63 (I x) (I y)
 have hXN : Ext w1 (w1.alloc (.cells #[I x, I y] 63)) := (Ext.refl w1).alloc _
 have c0 : (w1.alloc (.cells #[I x, I y] 63)).cell? ⟨w1.heap.size, 0, none⟩ = some (I x) := HN.cell (j := 0) (by simp)
 have c1 : (w1.alloc (.cells #[I x, I y] 63)).cell? ⟨w1.heap.size, 1, none⟩ = some (I y) := HN.cell (j := 1) (by simp)
 clear HN
 replace HO := Lib.hid (HO.out.ext hXN)
 replace hX := hX.trans hXN
 obtain ⟨q0, q1, f0, f1, r0, r1, hF⟩ := two_end hX (Nat.le_refl _) HO.out (I x) (I y)
 have Hres := Lib.hid (show RetF w (.agg #[I x, I y]) (.returned (.agg #[I x, I y])) _ from ⟨rfl, hF.out⟩)
 go_wp2_with fail
 refine bodyPost_ret (v := .agg #[I x, I y]) (by simp [results, Tryz.results25, go_sem, r0, r1]) rfl Hres.out
set_option maxHeartbeats 1000000 in
theorem part24_any {n d : Int} (hn : -9223372036854775808 ≤ n ∧ n ≤ 9223372036854775807) (hd : -9223372036854775808 ≤ d ∧ d ≤ 9223372036854775807) (h0 : d ≠ 0) {w : World} (hL : Laid w) :
  Calls Tryz.prog 62 #[.int .i64 n, .int .i64 d] w fun e w' => e = .returned (RV ((n : Rat) / (d : Rat))) ∧ Ext w w' := by
 have hof := Lib.hid (fun W (hW : Ext w W) => ratOf_any hn hd h0 (hL.ext hW))
 obtain ⟨r, hr⟩ : ∃ r : Rat, r = ((n : Rat) / (d : Rat)) := ⟨_, rfl⟩
 rw [← hr] at hof ⊢
 unfold RV at hof ⊢
 generalize r.num = x at *
 generalize ((r.den : Nat) : Int) = y at *
 have HO := Lib.hid (two_alloc w 63 (.string ⟨#[]⟩) (.string ⟨#[]⟩))
 have hX : Ext w (w.alloc (.cells #[.string ⟨#[]⟩, .string ⟨#[]⟩] 63)) := (Ext.refl w).alloc _
 clear hr hn hL hd h0
 go_enter Tryz.func62, Tryz.ntmps62
 go_wp2_with fail
 refine (hof.out _ hX).mono ?_
 rintro e w1 ⟨rfl, hE1⟩
 replace HO := Lib.hid (HO.out.ext hE1)
 replace hX := hX.trans hE1
 clear hof
 have HN := two_alloc w1 63 (I x) (I y)
 have hXN : Ext w1 (w1.alloc (.cells #[I x, I y] 63)) := (Ext.refl w1).alloc _
 have c0 : (w1.alloc (.cells #[I x, I y] 63)).cell? ⟨w1.heap.size, 0, none⟩ = some (I x) := HN.cell (j := 0) (by simp)
 have c1 : (w1.alloc (.cells #[I x, I y] 63)).cell? ⟨w1.heap.size, 1, none⟩ = some (I y) := HN.cell (j := 1) (by simp)
 clear HN
 replace HO := Lib.hid (HO.out.ext hXN)
 replace hX := hX.trans hXN
 obtain ⟨q0, q1, f0, f1, r0, r1, hF⟩ := two_end hX (Nat.le_refl _) HO.out (I x) (I y)
 have Hres := Lib.hid (show RetF w (.agg #[I x, I y]) (.returned (.agg #[I x, I y])) _ from ⟨rfl, hF.out⟩)
 go_wp2_with fail
 refine bodyPost_ret (v := .agg #[I x, I y]) (by simp [results, Tryz.results62, go_sem, r0, r1]) rfl Hres.out
set_option maxHeartbeats 1000000 in
theorem part13_any {n d : Int} (hn : -9223372036854775808 ≤ n ∧ n ≤ 9223372036854775807) (hd : -9223372036854775808 ≤ d ∧ d ≤ 9223372036854775807) (h0 : d ≠ 0) {w : World} (hL : Laid w) :
  Calls Tryz.prog 157 #[.int .i64 n, .int .i64 d] w fun e w' => e = .returned (RV ((n : Rat) / (d : Rat))) ∧ Ext w w' := by
 have hof := Lib.hid (fun W (hW : Ext w W) => ratOf_any hn hd h0 (hL.ext hW))
 obtain ⟨r, hr⟩ : ∃ r : Rat, r = ((n : Rat) / (d : Rat)) := ⟨_, rfl⟩
 rw [← hr] at hof ⊢
 unfold RV at hof ⊢
 generalize r.num = x at *
 generalize ((r.den : Nat) : Int) = y at *
 have HO := Lib.hid (two_alloc w 63 (.string ⟨#[]⟩) (.string ⟨#[]⟩))
 have hX : Ext w (w.alloc (.cells #[.string ⟨#[]⟩, .string ⟨#[]⟩] 63)) := (Ext.refl w).alloc _
 clear hr hn hL hd h0
 go_enter Tryz.func157, Tryz.ntmps157
 go_wp2_with fail
 refine (hof.out _ hX).mono ?_
 rintro e w1 ⟨rfl, hE1⟩
 replace HO := Lib.hid (HO.out.ext hE1)
 replace hX := hX.trans hE1
 clear hof
 have HN := two_alloc w1 63 (I x) (I y)
 have hXN : Ext w1 (w1.alloc (.cells #[I x, I y] 63)) := (Ext.refl w1).alloc _
 have c0 : (w1.alloc (.cells #[I x, I y] 63)).cell? ⟨w1.heap.size, 0, none⟩ = some (I x) := HN.cell (j := 0) (by simp)
 have c1 : (w1.alloc (.cells #[I x, I y] 63)).cell? ⟨w1.heap.size, 1, none⟩ = some (I y) := HN.cell (j := 1) (by simp)
 clear HN
 replace HO := Lib.hid (HO.out.ext hXN)
 replace hX := hX.trans hXN
 obtain ⟨q0, q1, f0, f1, r0, r1, hF⟩ := two_end hX (Nat.le_refl _) HO.out (I x) (I y)
 have Hres := Lib.hid (show RetF w (.agg #[I x, I y]) (.returned (.agg #[I x, I y])) _ from ⟨rfl, hF.out⟩)
 go_wp2_with fail
 refine bodyPost_ret (v := .agg #[I x, I y]) (by simp [results, Tryz.results157, go_sem, r0, r1]) rfl Hres.out
end Go.Proofs.YtedlgnoiojcjaaaGreatDoor
