/- Part 1, beside the shared parts, of the proof of the claim: contracts and plain laws; no condition. -/
import Derived.Test.YtdidbebgbinncaaGreatDoorV01
import Derived.Test.YtdidbebgbinncaaGreatDoorV02
import Derived.Test.YtdidbebgbinncaaGreatDoorV03
import Derived.Test.YtdidbebgbinncaaGreatDoorV04
import Derived.Test.YtdidbebgbinncaaGreatDoorV05
import Derived.Test.YtdidbebgbinncaaGreatDoorV06
import Derived.Test.YtdidbebgbinncaaGreatDoorV07
import Derived.Test.YtdidbebgbinncaaGreatDoorV08
import Derived.Test.YtdidbebgbinncaaGreatDoorV09
import Derived.Test.YtdidbebgbinncaaGreatDoorV10
import Derived.Test.YtdidbebgbinncaaGreatDoorV11
import Derived.Test.YtdidbebgbinncaaGreatDoorV12
import Derived.Test.YtdidbebgbinncaaGreatDoorV13
import Derived.Test.YtdidbebgbinncaaGreatDoorV14
import Derived.Test.YtdidbebgbinncaaGreatDoorV15
import Derived.Test.YtdidbebgbinncaaGreatDoorV16
import Derived.Test.YtdidbebgbinncaaGreatDoorV17
import Derived.Test.YtdidbebgbinncaaGreatDoorV18
import Derived.Test.YtdidbebgbinncaaGreatDoorV19
import Derived.Test.YtdidbebgbinncaaGreatDoorV20
import Derived.Test.YtdidbebgbinncaaGreatDoorV21
import Derived.Test.YtdidbebgbinncaaGreatDoorV22
import Derived.Test.YtdidbebgbinncaaGreatDoorV23
import Derived.Test.YtdidbebgbinncaaGreatDoorV24
import Derived.Test.YtdidbebgbinncaaGreatDoorV25
import Derived.Test.YtdidbebgbinncaaGreatDoorV26
import Derived.Test.YtdidbebgbinncaaGreatDoorV27
import Derived.Test.YtdidbebgbinncaaGreatDoorV28
import Derived.Test.YtdidbebgbinncaaGreatDoorV29
import Derived.Test.YtdidbebgbinncaaGreatDoorV30
import Derived.Test.YtdidbebgbinncaaGreatDoorV31
import Derived.Test.YtdidbebgbinncaaGreatDoorV32
import Derived.Test.YtdidbebgbinncaaGreatDoorV33
import Derived.BigQuiet
import Derived.BigFrame
import Derived.Laws.Rows
namespace Go.Proofs.YtdidbebgbinncaaGreatDoor
open Go.RowKit Go.Sort
def OfPost (w : World) (np : Nat) (M : Mx) (G : List (List Rat)) (x : List Int) (e : Ending) (w' : World) : Prop :=
  Ext w w' ∧ ((tuE np M x ≠ 0 ∧ e = .returned (.tuple #[.slice none 0 0, .int .i64 (tuE np M x)])) ∨ (tuE np M x = 0 ∧ szE (tuL np M G x) ≠ 0 ∧ e = .returned (.tuple #[.slice none 0 0, .int .i64 4])) ∨ (tuE np M x = 0 ∧ szE (tuL np M G x) = 0 ∧ ∃ g, e = .returned (.tuple #[slv g np np, .int .i64 0]) ∧ SzO w.heap.size w' g (tuL np M G x)))
set_option maxRecDepth 100000 in
set_option maxHeartbeats 4000000 in
theorem tuOf_any {w : World} {P : List Int} {C M : Mx} {G : List (List Rat)} {sp : Option Addr} {cp : Nat} {sc : Option Addr} {lc cc : Nat} {sm : Option Addr} {lm cm : Nat} {sg : Option Addr} {lg cg : Nat} {sx : Option Addr} {nx cx : Nat} {x : List Int} (h : TuV w P C M G sp cp sc lc cc sm lm cm sg lg cg) (hx : RowR w (.slice sx nx cx) x) (hL : Laid w) :
    Calls Tryz.prog 14 #[tuS P sp cp sc lc cc sm lm cm sg lg cg, .slice sx nx cx] w (OfPost w P.length M G x) := by
  have hte := Lib.hid (fun W (hW : Ext w W) => tempered_any (h.ext hW) (hx.ext hW) (hL.ext hW))
  have hpc := h.tm.pchk
  have hp4 := h.tm.ok.p4
  have hg4 : G.length ≤ 4 := by rw [h.ln]; exact h.tm.m4
  have Hnd := Lib.hid (fun (hs : tuE P.length M x = 0) => tuL_nd (np := P.length) h.sh (tuE_zero hs).2 hg4)
  have Hll := Lib.hid (tuL_length P.length M G x)
  have Hpc := Lib.hid hpc
  have HL := Lib.hid hL
  have hX := (Ext.refl w).alloc (.cells #[.slice sp P.length cp, .slice sc lc cc, .slice sm lm cm, .slice sg lg cg] 44)
  have x0 : (w.alloc (.cells #[.slice sp P.length cp, .slice sc lc cc, .slice sm lm cm, .slice sg lg cg] 44)).cell? ⟨w.heap.size, 0, none⟩ = some (.slice sp P.length cp) := by go_simp
  have x1 : (w.alloc (.cells #[.slice sp P.length cp, .slice sc lc cc, .slice sm lm cm, .slice sg lg cg] 44)).cell? ⟨w.heap.size, 1, none⟩ = some (.slice sc lc cc) := by go_simp
  have x2 : (w.alloc (.cells #[.slice sp P.length cp, .slice sc lc cc, .slice sm lm cm, .slice sg lg cg] 44)).cell? ⟨w.heap.size, 2, none⟩ = some (.slice sm lm cm) := by go_simp
  have x3 : (w.alloc (.cells #[.slice sp P.length cp, .slice sc lc cc, .slice sm lm cm, .slice sg lg cg] 44)).cell? ⟨w.heap.size, 3, none⟩ = some (.slice sg lg cg) := by go_simp
  obtain ⟨l, hl⟩ : ∃ l, l = tuL P.length M G x := ⟨_, rfl⟩
  have Hl := Lib.hid hl
  rw [← hl] at Hnd Hll
  have hwX : w.heap.size ≤ (w.alloc (.cells #[.slice sp P.length cp, .slice sc lc cc, .slice sm lm cm, .slice sg lg cg] 44)).heap.size := by simp
  have Hsz := Lib.hid hwX
  clear h hx hg4 hpc hL hl hwX
  go_enter Tryz.func14, Tryz.ntmps14
  go_wp2_with fail
  refine (hte.out _ hX).mono ?_
  rintro e X1 ⟨hE1, (⟨hy, rfl⟩ | ⟨hy, g, rfl, hg, hO⟩)⟩
  · have h2 : (tuE P.length M x == 0) = false := beq_eq_false_iff_ne.2 hy
    have h3 : (tuE P.length M x != 0) = true := by simp [bne, h2]
    have Hy := Lib.hid hy
    have Hdef := Lib.hid (fun (e : Ending) W (hE : Ext w W) (h : e = .returned (.tuple #[.slice none 0 0, .int .i64 (tuE P.length M x)])) => show OfPost w P.length M G x e W from ⟨hE, .inl ⟨Hy.out, h⟩⟩)
    generalize tuE P.length M x = y at *
    clear hy Hnd
    go_wp2_with fail
    go_ret2
    exact Hdef.out _ _ (hX.trans hE1) rfl
  · have e1 := hX.trans hE1
    have HO := Lib.hid hO
    have Hy := Lib.hid hy
    have hnd := Hnd.out hy
    replace x0 := hE1.cell x0
    have hz : ∀ W, Ext X1 W → SzR W (slv g P.length P.length) l := fun W hW => by
      have := (hO.ext hW).val.read
      rw [← Hl.out] at this
      rwa [Hll.out] at this
    by_cases h0 : szE l = 0
    · have hrs := Lib.hid (tuResult_yes (pa := sp) (cp := cp) h0 (fun W hW => Hpc.out W (e1.trans hW)) (hz _ (Ext.refl _)) Hll.out (fun r hr => (hnd r hr).mono (by omega)) (by omega) (HL.out.ext e1))
      have H0 := Lib.hid h0
      clear h0 hz hnd hO hy hte Hnd hg
      go_wp2_with fail
      refine hrs.out.mono ?_
      rintro e X2 ⟨rfl, hE2⟩
      go_wp2_with fail
      go_ret2
      exact ⟨e1.trans hE2, .inr (.inr ⟨Hy.out, by rw [← Hl.out]; exact H0.out, g, rfl, (HO.out.ext hE2).mono Hsz.out⟩)⟩
    · have hrs := Lib.hid (tuResult_no (pa := sp) (cp := cp) h0 (fun W hW => Hpc.out W (e1.trans hW)) (hz _ (Ext.refl _)) Hll.out (fun r hr => (hnd r hr).mono (by omega)) (by omega) (HL.out.ext e1))
      have H0 := Lib.hid h0
      clear h0 hz hnd hO hy hte Hnd hg
      go_wp2_with fail
      refine hrs.out.mono ?_
      rintro e X2 ⟨rfl, hE2⟩
      go_wp2_with fail
      go_ret2
      exact ⟨e1.trans hE2, .inr (.inl ⟨Hy.out, by rw [← Hl.out]; exact H0.out, rfl⟩)⟩
end Go.Proofs.YtdidbebgbinncaaGreatDoor
namespace Go.Proofs.YtdidbebgbinncaaGreatDoor
open Go.RowKit Go.Sort
def emQ : Value × Value := (.string ⟨#[]⟩, .string ⟨#[]⟩)
def c24 (L : List (List Rat)) (fs : List Rat) (np c : Nat) (o : Value × Value) : List (Value × Value) := (List.range np).map fun t => if t < c then qv (qR (sumR (cmbF L fs t) L.length)) else if t = c then o else emQ
@[simp] theorem c24_length (L : List (List Rat)) (fs : List Rat) (np c : Nat) (o : Value × Value) : (c24 L fs np c o).length = np := by simp [c24]
theorem c24_get {L : List (List Rat)} {fs : List Rat} {np c t : Nat} {o : Value × Value} (h : t < (c24 L fs np c o).length) : (c24 L fs np c o)[t] = if t < c then qv (qR (sumR (cmbF L fs t) L.length)) else if t = c then o else emQ := by simp [c24]
theorem c24_at {L : List (List Rat)} {fs : List Rat} {np c : Nat} {o : Value × Value} (h : c < np) : (c24 L fs np c o)[c]? = some o := by
  rw [List.getElem?_eq_getElem (by simpa using h), c24_get, if_neg (by omega), if_pos rfl]
theorem c24_set (L : List (List Rat)) (fs : List Rat) (np c : Nat) (o o' : Value × Value) : (c24 L fs np c o).set c o' = c24 L fs np c o' := by
  refine List.ext_getElem (by simp) fun t h1 h2 => ?_
  rw [List.getElem_set]
  by_cases e : c = t
  · subst e
    rw [if_pos rfl, c24_get, if_neg (by omega), if_pos rfl]
  · rw [if_neg e, c24_get, c24_get, if_neg (show ¬ t = c by omega), if_neg (show ¬ t = c by omega)]
theorem c24_next (L : List (List Rat)) (fs : List Rat) (np c : Nat) : c24 L fs np c (qv (qR (sumR (cmbF L fs c) L.length))) = c24 L fs np (c + 1) emQ := by
  refine List.ext_getElem (by simp) fun t h1 h2 => ?_
  rw [c24_get, c24_get]
  by_cases h : t < c
  · rw [if_pos h, if_pos (by omega)]
  · rw [if_neg h]
    by_cases e : t = c
    · subst e; rw [if_pos rfl, if_pos (by omega)]
    · rw [if_neg e, if_neg (by omega)]
      split <;> rfl
theorem c24_start (L : List (List Rat)) (fs : List Rat) (np : Nat) : c24 L fs np 0 emQ = List.replicate np emQ := by
  refine List.ext_getElem (by simp) fun t h1 h2 => ?_
  rw [c24_get, if_neg (by omega), List.getElem_replicate]
  split <;> rfl
theorem c24_end (L : List (List Rat)) (fs : List Rat) (np : Nat) : c24 L fs np np emQ = (cmbQ L fs np).map fun r => qv (qR r) := by
  refine List.ext_getElem (by simp) fun t h1 h2 => ?_
  have : t < np := by simpa using h1
  rw [c24_get, if_pos this, List.getElem_map, cmbQ_get]
theorem FrV.own {B g : Nat} {w : World} {l : List Rat} (h : FrV B w g (l.map fun r => qv (qR r))) : SzO B w g l := by
  unfold FrV at h
  rw [List.length_map] at h; exact h
theorem FrV.stepE {B g i : Nat} {w W : World} {l : List (Value × Value)} (hE : Ext w W) (hg : w.heap.size ≤ g) (h : FrV B W g l) {p : Value × Value} (hi : l[i]? = some p) (x y : Value) :
    W.cell? ⟨g, i * 2, none⟩ = some p.1 ∧ W.cell? ⟨g, i * 2 + 1, none⟩ = some p.2 ∧ W.frozen? ⟨g, i * 2, none⟩ = false ∧ W.frozen? ⟨g, i * 2 + 1, none⟩ = false ∧
      Hid (FrV B ((W.setCell ⟨g, i * 2, none⟩ x).setCell ⟨g, i * 2 + 1, none⟩ y) g (l.set i (x, y))) ∧
      Hid (Ext w ((W.setCell ⟨g, i * 2, none⟩ x).setCell ⟨g, i * 2 + 1, none⟩ y)) := by
  obtain ⟨c0, c1⟩ := h.cells hi
  obtain ⟨h1, g1, f0, f1⟩ := h.set i (x, y)
  exact ⟨c0, c1, f0, f1, Lib.hid h1, Lib.hid (ext_trans_grown hE g1 hg)⟩
set_option maxRecDepth 100000 in
set_option maxHeartbeats 4000000 in
theorem combine24_any {w : World} {np : Nat} {v fv : Value} {L : List (List Rat)} {fs : List Rat} (hG : GnR w v L) (hf : SzR w fv fs) (hc : ∀ l ∈ L, l.length = np) (hfl : L.length ≤ fs.length) (hE : ∀ l ∈ L, ∀ r ∈ l, NdQ 1000 r) (hF : ∀ r ∈ fs, NdQ 1000 r) (hn : np ≤ 1000) (hk : L.length ≤ 1000) (hL : Laid w) :
    Calls Tryz.prog 28 #[v, fv, .int .i64 np] w fun e w' => (∃ g, e = .returned (slv g np np) ∧ SzO w.heap.size w' g (cmbQ L fs np)) ∧ Ext w w' := by
  obtain ⟨i0, hi, hz0, hz1, hz2⟩ := info_parts Tryz.infoRat
  obtain ⟨sa, gb, go, cap, vs, rfl, hcap, hvl, hS, hr⟩ := hG
  obtain ⟨fa, fb, fcap, rfl, hfc, hfa, hfr⟩ := hf
  have HS := Lib.hid hS
  have Hr := Lib.hid hr
  have Hv := Lib.hid hvl
  have Hc := Lib.hid hc
  have Hfa := Lib.hid hfa
  have Hfr := Lib.hid hfr
  have HL := Lib.hid hL
  have Hnd := Lib.hid (fun c k => cmbF_nd (c := c) (k := k) hE hF (by omega) (by omega))
  have Hsum := Lib.hid (fun c k (h : k ≤ 1000) => (sumR_nd k (fun t _ => cmbF_nd (c := c) (k := t) hE hF (by omega) (by omega))).smQ (by have : k * (1000 + 1000 + 1) ≤ 1000 * (1000 + 1000 + 1) := Nat.mul_le_mul_right _ h; omega))
  have Hss := Lib.hid (fun k i (h : k < L.length) (h2 : i < L[k].length) s (hs : s = L[k][i]) => show SmQ s by rw [hs]; exact (hE _ (List.getElem_mem h) _ (List.getElem_mem h2)).smQ (by omega))
  have Hpp := Lib.hid (fun k (h : k < fs.length) s (hs : fs[k] = s) => show SmQ s by rw [← hs]; exact (hF _ (List.getElem_mem h)).smQ (by omega))
  have hw0 := Lib.hid (fun W (hW : Ext w W) => whole24_any (n := 0) (by omega) (hL.ext hW))
  rw [show (((0 : Int) : Rat)) = (0 : Rat) from rfl] at hw0
  obtain ⟨m, hm⟩ : ∃ m, m = L.length := ⟨_, rfl⟩
  obtain ⟨q, hq⟩ : ∃ q, q = fs.length := ⟨_, rfl⟩
  rw [← hm] at hcap hfl hk ⊢
  rw [← hq] at hfc hfl ⊢
  have Hm := Lib.hid hm
  have Hq := Lib.hid hq
  clear hS hr hvl hc hfa hfr hL hE hF hm hq
  go_enter Tryz.func28, Tryz.ntmps28
  go_wp2_with (at_make; refine wpList_make_full _ rfl _ _ 47 rfl w.heap.size 70 i0 (.agg #[.string ⟨#[]⟩, .string ⟨#[]⟩]) 2 Tryz.underlying47 hi hz0 hz1 .i64 .i64 _ _ np rfl rfl (by omega) (by omega) (by rw [hz2]; omega) (by unfold maxLen; omega) (Nat.le_refl _) ?_; intro w0 hown1 hgrow1)
  have e0 := ext_grown hgrow1
  have HO := Lib.hid (show FrV w.heap.size w0 w.heap.size (c24 L fs np 0 emQ) by
    rw [c24_start]; exact frv_made hown1 (by omega))
  clear hgrow1 hown1 hi hz0 hz1 hz2
  obtain ⟨g, hg⟩ : ∃ g, g = w.heap.size := ⟨_, rfl⟩
  have Hgw := Lib.hid (show w.heap.size ≤ g by omega)
  rw [← hg] at HO ⊢
  have Hg := Lib.hid hg
  clear hg
  go_loopw [8] (fun cv wr => ∃ c : Nat, c ≤ np ∧ cv = .int .i64 c ∧ Hid (FrV g wr g (c24 L fs np c emQ)) ∧ Ext w wr) (fun cv _ => np - (intOf cv).toNat)
  case atStart => exact ⟨0, by omega, by go_num, HO, e0⟩
  case round =>
    obtain ⟨c, hc', rfl, HO, hE⟩ := hrel
    generalize wr = Y at *
    by_cases hlt : c < np
    · have hci : (c : Int) < (np : Int) := by omega
      have hw1 := Lib.hid (hw0.out _ hE)
      have Hset := Lib.hid (c24_set L fs np c emQ (qv (qR 0)))
      have Hat := Lib.hid (c24_at (L := L) (fs := fs) (o := emQ) hlt)
      have Hlt := Lib.hid hlt
      clear hlt
      go_wp2_with fail
      refine hw1.out.mono ?_
      rintro e Y1 ⟨rfl, hE1⟩
      have e1 := hE.trans hE1
      obtain ⟨z0, z1, f0, f1, HO1, hE2⟩ := FrV.stepE e1 Hgw.out (HO.out.ext hE1) Hat.out (I 0) (I 1)
      rw [show ((I 0, I 1) : Value × Value) = qv (qR 0) from rfl, Hset.out] at HO1
      unfold emQ at z0 z1
      clear hw1 HO Hat Hset
      go_wp2_with fail
      generalize ((Y1.setCell ⟨g, c * 2, none⟩ (I 0)).setCell ⟨g, c * 2 + 1, none⟩ (I 1)) = Y2 at *
      clear z0 z1 f0 f1 hE1 e1 hE
      go_loopw [9] (fun iv wr => ∃ i : Nat, i ≤ m ∧ iv = .int .i64 i ∧ Hid (FrV g wr g (c24 L fs np c (qv (qR (sumR (cmbF L fs c) i))))) ∧ Ext w wr) (fun iv _ => m - (intOf iv).toNat)
      case atStart => exact ⟨0, by omega, by go_num, Lib.hid (show FrV g Y2 g (c24 L fs np c (qv (qR (sumR (cmbF L fs c) 0)))) from HO1.out), hE2.out⟩
      case round =>
        obtain ⟨i, hi, rfl, HO, eX⟩ := hrel
        generalize wr = X at *
        by_cases hli : i < m
        · have hii : (i : Int) < (m : Int) := by omega
          have hkL : i < L.length := by rw [← Hm.out]; exact hli
          have hkv : i < vs.length := by rw [Hv.out]; exact hkL
          obtain rfl := HS.out.addr (by omega)
          have k0 := HS.out.cell i _ (List.getElem?_eq_getElem hkv)
          have hsz := Hr.out i hkL hkv
          have hln := Hc.out _ (List.getElem_mem hkL)
          have hLk : L.getD i [] = L[i] := by rw [List.getD_eq_getElem?_getD, List.getElem?_eq_getElem hkL]; rfl
          obtain ⟨xa, xb, xc, ex, q1, q2, q3⟩ := hsz
          rw [ex] at k0
          rw [hln] at k0 q1 q2
          have hcn : c < np := Hlt.out
          obtain rfl := q2 (by omega)
          have hkf : i < q := by omega
          have hfk : i < fs.length := by rw [← Hq.out]; exact hkf
          obtain rfl := Hfa.out (by omega)
          obtain ⟨f0, f1⟩ := Hfr.out i hfk
          have hfD : fs.getD i 0 = fs[i] := by rw [List.getD_eq_getElem?_getD, List.getElem?_eq_getElem hfk]; rfl
          obtain ⟨p, hp⟩ : ∃ p, p = fs[i] := ⟨_, rfl⟩
          rw [← hp] at f0 f1 hfD
          obtain ⟨s0, s1⟩ := q3 c (by rw [hln]; exact hcn)
          obtain ⟨s, hs⟩ : ∃ s, s = L[i][c]'(by rw [hln]; exact hcn) := ⟨_, rfl⟩
          rw [← hs] at s0 s1
          have hFk : cmbF L fs c i = s * p := by
            unfold cmbF
            rw [hLk, hfD, List.getD_eq_getElem?_getD, List.getElem?_eq_getElem (by rw [hln]; exact hcn), hs]; rfl
          have hsN := Hnd.out c i
          rw [hFk] at hsN
          have hsm : SmQ s := Hss.out i c hkL (by rw [hln]; exact hcn) s hs
          have hpm : SmQ p := Hpp.out i hfk p hp.symm
          obtain ⟨t, ht⟩ : ∃ t, t = sumR (cmbF L fs c) i := ⟨_, rfl⟩
          have htm := Hsum.out c i (by omega)
          rw [← ht] at htm HO
          have Hat := Lib.hid (c24_at (L := L) (fs := fs) (o := qv (qR t)) hcn)
          obtain ⟨t0', t1'⟩ := HO.out.cells Hat.out
          have t0 : X.cell? ⟨g, c * 2, none⟩ = some (I t.num) := t0'
          have t1 : X.cell? ⟨g, c * 2 + 1, none⟩ = some (I t.den) := t1'
          clear t0' t1'
          have hst : (c24 L fs np c (qv (qR t))).set c (qv (qR (t + s * p))) = c24 L fs np c (qv (qR (sumR (cmbF L fs c) (i + 1)))) := by
            rw [c24_set, sumR, hFk, ht]
          have Hst := Lib.hid hst
          have hmu := Lib.hid (fun W (hW : Ext X W) => ratMul_any (a := s) (b := p) hsm hpm (HL.out.ext (eX.trans hW)))
          have had := Lib.hid (fun W (hW : Ext X W) => ratAdd_any (a := t) (b := s * p) htm (hsN.smQ (by omega)) (HL.out.ext (eX.trans hW)))
          replace k0 := eX.cell k0
          replace s0 := eX.cell s0
          replace s1 := eX.cell s1
          have p0 := eX.cell f0
          have p1 := eX.cell f1
          have hkfI : (i : Int) < (q : Int) := by omega
          have hcnI : (c : Int) < (np : Int) := by omega
          clear hst htm hsN hsm hpm hFk hs ht hli hp hfD hLk hln q2 q3 ex f0 f1 hkv hcn
          go_wp2_with fail
          have d0 : Ext X X.drew := (Ext.refl X).drew
          refine wp_region_held_tail (S := fun W => Ext X W) 19 (by kernel_rfl) (by simp) ?_
          intro inv
          generalize X.drew = X1 at *
          refine wpAnyLH_take (i := 0) (v := slv g np np) rfl (by kernel_rfl) (fun _ _ _ h => h) (.inl ⟨by rfl, fun W hW => by go_simp⟩) d0 inv ?_
          intro inv
          go_simp
          refine wpAnyLH_take (i := 1) (v := .int .i64 c) rfl (by kernel_rfl) (fun _ _ _ h => h) (.inl ⟨by rfl, fun W hW => by go_simp⟩) d0 inv ?_
          intro inv
          go_simp
          refine wpAnyLH_take (i := 2) (v := slv g np np) rfl (by kernel_rfl) (fun _ _ _ h => h) (.inl ⟨by rfl, fun W hW => by go_simp⟩) d0 inv ?_
          intro inv
          go_simp
          refine wpAnyLH_take (i := 3) (v := .int .i64 c) rfl (by kernel_rfl) (fun _ _ _ h => h) (.inl ⟨by rfl, fun W hW => by go_simp⟩) d0 inv ?_
          intro inv
          go_simp
          refine wpAnyLH_take (i := 4) (v := .pointer (some ⟨g, c * 2, none⟩)) rfl (by kernel_rfl) (fun _ _ _ h => h) (.inl ⟨by rfl, fun W hW => by go_simp⟩) d0 inv ?_
          intro inv
          go_simp
          refine wpAnyLH_take (i := 5) (v := RV t) rfl (by kernel_rfl) (fun _ _ _ h => h) (.inl ⟨by rfl, fun W hW => by have z0 := hW.cell t0; have z1 := hW.cell t1; go_simp⟩) d0 inv ?_
          intro inv
          go_simp
          refine wpAnyLH_take (i := 6) (v := .slice (some ⟨gb, go, none⟩) m cap) rfl (by kernel_rfl) (fun _ _ _ h => h) (.inl ⟨by rfl, fun W hW => by go_simp⟩) d0 inv ?_
          intro inv
          go_simp
          refine wpAnyLH_take (i := 7) (v := .int .i64 i) rfl (by kernel_rfl) (fun _ _ _ h => h) (.inl ⟨by rfl, fun W hW => by go_simp⟩) d0 inv ?_
          intro inv
          go_simp
          refine wpAnyLH_take (i := 8) (v := .pointer (some ⟨gb, go + i, none⟩)) rfl (by kernel_rfl) (fun _ _ _ h => h) (.inl ⟨by rfl, fun W hW => by go_simp⟩) d0 inv ?_
          intro inv
          go_simp
          refine wpAnyLH_take (i := 9) (v := .slice (some ⟨xb, 0, none⟩) np xc) rfl (by kernel_rfl) (fun _ _ _ h => h) (.inl ⟨by rfl, fun W hW => by have z0 := hW.cell k0; go_simp⟩) d0 inv ?_
          intro inv
          go_simp
          refine wpAnyLH_take (i := 10) (v := .int .i64 c) rfl (by kernel_rfl) (fun _ _ _ h => h) (.inl ⟨by rfl, fun W hW => by go_simp⟩) d0 inv ?_
          intro inv
          go_simp
          refine wpAnyLH_take (i := 11) (v := .pointer (some ⟨xb, c * 2, none⟩)) rfl (by kernel_rfl) (fun _ _ _ h => h) (.inl ⟨by rfl, fun W hW => by go_simp⟩) d0 inv ?_
          intro inv
          go_simp
          refine wpAnyLH_take (i := 12) (v := RV s) rfl (by kernel_rfl) (fun _ _ _ h => h) (.inl ⟨by rfl, fun W hW => by have z0 := hW.cell s0; have z1 := hW.cell s1; go_simp⟩) d0 inv ?_
          intro inv
          go_simp
          refine wpAnyLH_take (i := 13) (v := .slice (some ⟨fb, 0, none⟩) q fcap) rfl (by kernel_rfl) (fun _ _ _ h => h) (.inl ⟨by rfl, fun W hW => by go_simp⟩) d0 inv ?_
          intro inv
          go_simp
          refine wpAnyLH_take (i := 14) (v := .int .i64 i) rfl (by kernel_rfl) (fun _ _ _ h => h) (.inl ⟨by rfl, fun W hW => by go_simp⟩) d0 inv ?_
          intro inv
          go_simp
          refine wpAnyLH_take (i := 15) (v := .pointer (some ⟨fb, i * 2, none⟩)) rfl (by kernel_rfl) (fun _ _ _ h => h) (.inl ⟨by rfl, fun W hW => by go_simp⟩) d0 inv ?_
          intro inv
          go_simp
          refine wpAnyLH_take (i := 16) (v := RV p) rfl (by kernel_rfl) (fun _ _ _ h => h) (.inl ⟨by rfl, fun W hW => by have z0 := hW.cell p0; have z1 := hW.cell p1; go_simp⟩) d0 inv ?_
          intro inv
          go_simp
          refine wpAnyLH_oneI (i := 17) rfl (by kernel_rfl) inv (fun inv K0 hK0 => ?_)
          go_simp
          refine (hmu.out _ d0).mono ?_
          rintro e X2 ⟨rfl, hG1⟩
          have d1 := d0.trans hG1
          refine hK0 _ _ d1 ?_
          clear hK0
          refine wpAnyLH_oneI (i := 18) rfl (by kernel_rfl) inv (fun inv K0 hK0 => ?_)
          go_simp
          refine (had.out _ d1).mono ?_
          rintro e X3 ⟨rfl, hG2⟩
          have d2 := d1.trans hG2
          refine hK0 _ _ d2 ?_
          clear hK0
          refine wpAnyLH_end (by kernel_rfl) ?_
          obtain ⟨z0, z1, f0', f1', HO9, hE9⟩ := FrV.stepE (eX.trans d2) Hgw.out (HO.out.ext d2) Hat.out (I (t + s * p).num) (I (t + s * p).den)
          rw [show ((I (t + s * p).num, I (t + s * p).den) : Value × Value) = qv (qR (t + s * p)) from rfl, Hst.out] at HO9
          unfold qv qR at z0 z1
          clear hmu had inv d0 d1 hG1 hG2 t0 t1 s0 s1 p0 p1 HO k0
          go_wp2_with fail
          go_roundw
          case rel => exact ⟨i + 1, by omega, by go_num, HO9, hE9.out⟩
          case measure => simp [intOf] <;> omega
        · obtain rfl : i = m := by omega
          have hii : ¬ (i : Int) < (i : Int) := by omega
          have HOn := Lib.hid (show FrV g X g (c24 L fs np (c + 1) emQ) by rw [← c24_next, ← Hm.out]; exact HO.out)
          have hcn : c < np := Hlt.out
          clear HO
          go_wp2_with fail
          go_roundw
          case rel => exact ⟨c + 1, by omega, by go_num, HOn, eX⟩
          case measure => simp [intOf] <;> omega
    · obtain rfl : c = np := by omega
      have hci : ¬ (c : Int) < (c : Int) := by omega
      have HOn := Lib.hid (FrV.own (show FrV g Y g ((cmbQ L fs c).map fun r => qv (qR r)) by rw [← c24_end]; exact HO.out))
      clear HO
      go_wp2_with fail
      go_ret
      exact ⟨⟨g, rfl, by rw [← Hg.out]; exact HOn.out⟩, hE⟩
end Go.Proofs.YtdidbebgbinncaaGreatDoor
namespace Go.Proofs.YtdidbebgbinncaaGreatDoor
open Go.RowKit Go.Sort
set_option maxRecDepth 100000 in
set_option maxHeartbeats 4000000 in
theorem Same24_any {w : World} {va vb : Value} {la lb : List Rat} (ha : SzR w va la) (hb : SzR w vb lb) (hl : la.length ≤ 1000000) :
    Calls Tryz.prog 19 #[va, vb] w fun e w' => e = .returned (.bool (decide (la = lb))) ∧ Ext w w' := by
  obtain ⟨sa, ga, ca, rfl, hca, haa, hra⟩ := ha
  obtain ⟨sb, gb, cb, rfl, hcb, hbb, hrb⟩ := hb
  have Haa := Lib.hid haa
  have Hbb := Lib.hid hbb
  have Hra := Lib.hid hra
  have Hrb := Lib.hid hrb
  have Hno := Lib.hid (fun (h : la ≠ lb) => decide_eq_false h)
  have Hyes := Lib.hid (fun (hl : la.length = lb.length) (h : ∀ i (h : i < la.length) (h' : i < lb.length), la[i] = lb[i]) => decide_eq_true (show la = lb from List.ext_getElem hl h))
  obtain ⟨n, hn⟩ : ∃ n, n = la.length := ⟨_, rfl⟩
  obtain ⟨m, hm⟩ : ∃ m, m = lb.length := ⟨_, rfl⟩
  have Hn := Lib.hid hn
  have Hm := Lib.hid hm
  rw [← hn] at hl ⊢
  rw [← hm]
  generalize decide (la = lb) = q at *
  clear haa hbb hra hrb hn hm hca hcb
  by_cases hnm : n = m
  · subst hnm
    go_enter Tryz.func19, Tryz.ntmps19
    go_wp2_with fail
    go_loopw [5] (fun iv wr => ∃ i : Nat, i ≤ n ∧ iv = .int .i64 i ∧ Hid (∀ t (h : t < la.length) (h' : t < lb.length), t < i → la[t] = lb[t]) ∧ Ext w wr) (fun iv _ => n - (intOf iv).toNat)
    case atStart => exact ⟨0, by omega, by go_num, Lib.hid (fun t _ _ h => by omega), Ext.refl _⟩
    case round =>
      obtain ⟨i, hi, rfl, HA, hE⟩ := hrel
      generalize wr = X at *
      by_cases hlt : i < n
      · have hii : (i : Int) < (n : Int) := by omega
        have hia : i < la.length := by rw [← Hn.out]; exact hlt
        have hib : i < lb.length := by rw [← Hm.out]; exact hlt
        obtain rfl := Haa.out (by omega)
        obtain rfl := Hbb.out (by omega)
        obtain ⟨a0, a1⟩ := Hra.out i hia
        obtain ⟨b0, b1⟩ := Hrb.out i hib
        replace a0 := hE.cell a0
        replace a1 := hE.cell a1
        replace b0 := hE.cell b0
        replace b1 := hE.cell b1
        have Hq := Lib.hid (fun (h : la[i] ≠ lb[i]) => Hno.out (fun h2 => h (by simp only [h2])))
        have HA' := Lib.hid (fun (h : la[i] = lb[i]) t (ht : t < la.length) (ht' : t < lb.length) (hti : t < i + 1) => show la[t] = lb[t] by
          by_cases e : t = i
          · subst e; exact h
          · exact HA.out t ht ht' (by omega))
        obtain ⟨x, hx⟩ : ∃ x, x = la[i] := ⟨_, rfl⟩
        obtain ⟨y, hy⟩ : ∃ y, y = lb[i] := ⟨_, rfl⟩
        rw [← hx] at a0 a1 Hq HA'
        rw [← hy] at b0 b1 Hq HA'
        clear hx hy HA hlt hia hib
        have hqd : ∀ u v : Int, (Lib.itoa u == Lib.itoa v) = decide (u = v) := fun u v => by
          by_cases h : u = v
          · subst h; simp
          · rw [decide_eq_false h, beq_eq_false_iff_ne]; exact fun hc => h (itoa_inj hc)
        have k1 := hqd x.num y.num
        have k2 := hqd x.den y.den
        by_cases hxy : x = y
        · subst hxy
          have HA := Lib.hid (HA'.out rfl)
          clear HA' Hq k1 k2 hqd
          go_wp2_with fail
          go_quiet (fail)
          have hE := hE.drewN nq
          go_wp2_with fail
          go_roundw
          case rel => exact ⟨i + 1, by omega, by go_num, HA, hE⟩
          case measure => simp [intOf] <;> omega
        · have Hq0 := Lib.hid (Hq.out hxy)
          have hd : x.num ≠ y.num ∨ (x.num = y.num ∧ (x.den : Int) ≠ (y.den : Int)) := by
            by_cases h1 : x.num = y.num
            · exact .inr ⟨h1, fun h2 => hxy (Rat.ext h1 (by omega))⟩
            · exact .inl h1
          clear HA' Hq hxy hqd
          obtain ⟨la', hla⟩ : ∃ l, l = Lib.itoa x.num := ⟨_, rfl⟩
          obtain ⟨lb', hlb⟩ : ∃ l, l = Lib.itoa y.num := ⟨_, rfl⟩
          obtain ⟨da', hda⟩ : ∃ l, l = Lib.itoa x.den := ⟨_, rfl⟩
          obtain ⟨db', hdb⟩ : ∃ l, l = Lib.itoa y.den := ⟨_, rfl⟩
          unfold I S at a0 a1 b0 b1
          rw [← hla, ← hlb] at k1
          rw [← hda, ← hdb] at k2
          rw [← hla] at a0
          rw [← hda] at a1
          rw [← hlb] at b0
          rw [← hdb] at b1
          rcases hd with hd | ⟨hd, hd2⟩
          · rw [decide_eq_false hd] at k1
            have k3 : (la' != lb') = true := by simp [bne, k1]
            clear hd k2 hla hlb hda hdb
            go_wp2_with fail
            go_quiet (fail)
            have hE := hE.drewN nq
            go_wp2_with fail
            go_ret
            exact ⟨ret_val (congrArg Value.bool Hq0.out.symm), hE⟩
          · rw [decide_eq_false hd2] at k2
            have k3 : (da' != db') = true := by simp [bne, k2]
            rw [decide_eq_true hd] at k1
            obtain rfl : la' = lb' := by simpa using k1
            clear hd k1 hd2 hla hlb hda hdb
            go_wp2_with fail
            go_quiet (fail)
            have hE := hE.drewN nq
            go_wp2_with fail
            go_ret
            exact ⟨ret_val (congrArg Value.bool Hq0.out.symm), hE⟩
      · obtain rfl : i = n := by omega
        have hii : ¬ (i : Int) < (i : Int) := by omega
        have Hq := Lib.hid (Hyes.out (by rw [← Hn.out, ← Hm.out]) (fun t h h' => HA.out t h h' (by rw [Hn.out]; exact h)))
        clear hlt HA
        go_wp2_with fail
        go_ret
        exact ⟨ret_val (congrArg Value.bool Hq.out.symm), hE⟩
  · have h1 : ¬ ((n : Int) = (m : Int)) := by omega
    have h2 : ((n : Int) == (m : Int)) = false := beq_eq_false_iff_ne.2 h1
    have h3 : ((n : Int) != (m : Int)) = true := by simp [bne, h2]
    have Hq := Lib.hid (Hno.out (fun h => hnm (by rw [Hn.out, Hm.out, h])))
    clear hnm
    go_enter Tryz.func19, Tryz.ntmps19
    go_wp2_with fail
    go_ret
    exact ⟨ret_val (congrArg Value.bool Hq.out.symm), Ext.refl _⟩
end Go.Proofs.YtdidbebgbinncaaGreatDoor
namespace Go.Proofs.YtdidbebgbinncaaGreatDoor
open Go.RowKit Go.Sort
set_option maxRecDepth 100000 in
set_option maxHeartbeats 2000000 in
theorem factors24_any {w : World} {v : Value} {x : List Int} (hx : RowR w v x) (hl : x.length ≤ 1000000) (h64 : ∀ z ∈ x, I64 z) (hL : Laid w) :
    Calls Tryz.prog 29 #[v] w fun e w' => (∃ u, e = .returned u ∧ SzV w.heap.size w' u (nbL x)) ∧ Ext w w' := by
  obtain ⟨sa, gb, go, cap, rfl, hc, hS⟩ := hx
  have HS := Lib.hid hS
  have H64 := Lib.hid h64
  have HL := Lib.hid hL
  obtain ⟨n, hn⟩ : ∃ n, n = x.length := ⟨_, rfl⟩
  rw [← hn] at hc hl ⊢
  have Hn := Lib.hid hn
  clear hS h64 hL hn
  go_enter Tryz.func29, Tryz.ntmps29
  go_wp2_with fail
  go_loopw [3, 4] (fun u iv wr => ∃ i : Nat, i ≤ n ∧ iv = .int .i64 i ∧ Hid (SzV w.heap.size wr u (nbL (x.take i))) ∧ Ext w wr) (fun _ iv _ => n - (intOf iv).toNat)
  case atStart => exact ⟨0, by omega, by go_num, Lib.hid (SzV.nil _ _), Ext.refl _⟩
  case round =>
    obtain ⟨i, hi, rfl, HV, hE⟩ := hrel
    generalize wr = Y at *
    have hYs := hE.size
    by_cases hlt : i < n
    · have hii : (i : Int) < (n : Int) := by omega
      have hix : i < x.length := by rw [← Hn.out]; exact hlt
      obtain rfl := HS.out.addr (by simp; omega)
      have k0 := HS.out.cell i (.int .i64 x[i]) (by simp [is, List.getElem?_eq_getElem hix])
      have y0 := hE.cell k0
      have h6 := H64.out _ (List.getElem_mem hix)
      have hof := Lib.hid (fun W (hW : Ext Y W) => whole24_any (n := x[i]) h6 (HL.out.ext (hE.trans hW)))
      have Hst := Lib.hid (nbL_snoc hix)
      have hlen : (nbL (x.take i)).length = i := by rw [nbL_length, List.length_take]; omega
      have Hlen := Lib.hid hlen
      have Hmin := Lib.hid (show min i x.length = i by omega)
      clear k0 hlen h6
      obtain ⟨r, hr⟩ : ∃ r : Rat, r = (x[i] : Rat) := ⟨_, rfl⟩
      rw [← hr] at hof Hst
      generalize x[i] = z at *
      clear hr hix
      go_wp2_with fail
      refine (hof.out _ (Ext.refl _)).mono ?_
      rintro e Z ⟨rfl, hE2⟩
      have eA := hE2.alloc (.cells #[I r.num, I r.den] 70)
      have hO := two_alloc Z 70 (I r.num) (I r.den)
      have z0 := hO.cell (j := 0) (by simp)
      have z1 := hO.cell (j := 1) (by simp)
      simp only [List.getElem_cons_zero, List.getElem_cons_succ] at z0 z1
      have HVZ := Lib.hid (HV.out.ext eA)
      have hZs := hE2.size
      clear hO hof y0
      go_wp2_with (at_builtin; refine app_rat rfl _ _ 46 Tryz.underlying46 rfl (B := w.heap.size) rfl HVZ.out (b := Z.heap.size) (r := r) rfl z0 z1 (by rw [Hlen.out]; omega) (by simp; omega) ?_; intro g9 cap9 w9 hO9 hB9 _; rw [Hst.out, Hlen.out] at hO9; have HO9 := Lib.hid hO9; have e9 := Below.trans (hE.trans eA) hB9; clear hO9 hB9)
      go_wp2_with fail
      go_roundw
      case rel => exact ⟨i + 1, by omega, by go_num, by rw [Hmin.out]; exact HO9, e9⟩
      case measure => simp [intOf] <;> omega
    · obtain rfl : i = n := by omega
      have Hres := Lib.hid (show SzV w.heap.size Y _ (nbL x) by have := HV.out; rw [Hn.out, List.take_length] at this; exact this)
      have hii : ¬ (i : Int) < (i : Int) := by omega
      go_wp2_with fail
      go_ret
      exact ⟨⟨_, rfl, Hres.out⟩, hE⟩
theorem just24_any {w : World} {v : Value} {x : List Int} (hx : RowR w v x) (hl : x.length ≤ 1000000) (h64 : ∀ z ∈ x, I64 z) (hL : Laid w) :
    Calls Tryz.prog 21 #[v] w fun e w' => (∃ u, e = .returned u ∧ SzV w.heap.size w' u (nbL x)) ∧ Ext w w' := by
  have hf := Lib.hid (factors24_any hx hl h64 hL)
  clear hx hl h64 hL
  go_enter Tryz.func21, Tryz.ntmps21
  go_wp2_with fail
  refine hf.out.mono ?_
  rintro e W ⟨⟨u, rfl, hu⟩, hE⟩
  have Hu := Lib.hid hu
  clear hu hf
  go_wp2_with fail
  go_ret
  exact ⟨⟨_, rfl, Hu.out⟩, hE⟩
end Go.Proofs.YtdidbebgbinncaaGreatDoor
namespace Go.Proofs.YtdidbebgbinncaaGreatDoor
open Go.RowKit Go.Sort
theorem cmbF_tw {G : List (List Rat)} {x : List Int} {c k A K : Nat} (hG : ∀ l ∈ G, ∀ r ∈ l, Tw A r) (hx : ∀ z ∈ x, z.natAbs ≤ K) : Tw (A * K) (cmbF G (nbL x) c k) := by
  unfold cmbF
  have h1 : Tw A ((G.getD k []).getD c 0) := by
    rw [List.getD_eq_getElem?_getD, List.getD_eq_getElem?_getD]
    by_cases h : k < G.length
    · rw [List.getElem?_eq_getElem h, Option.getD_some]
      by_cases h2 : c < G[k].length
      · rw [List.getElem?_eq_getElem h2, Option.getD_some]; exact hG _ (List.getElem_mem h) _ (List.getElem_mem h2)
      · rw [List.getElem?_eq_none (by omega)]; exact Tw.zero _
    · rw [List.getElem?_eq_none (show G.length ≤ k by omega), Option.getD_none, List.getElem?_nil]; exact Tw.zero _
  have h2 : ∃ z : Int, (nbL x).getD k 0 = (z : Rat) ∧ z.natAbs ≤ K := by
    rw [List.getD_eq_getElem?_getD]
    by_cases h : k < x.length
    · have hk : k < (nbL x).length := by rw [nbL_length]; exact h
      refine ⟨x[k], ?_, hx _ (List.getElem_mem h)⟩
      rw [List.getElem?_eq_getElem hk, Option.getD_some]
      simp [nbL]
    · rw [List.getElem?_eq_none (by rw [nbL_length]; omega)]
      exact ⟨0, rfl, by simp⟩
  obtain ⟨z, e, hz⟩ := h2
  rw [e]
  exact h1.mulInt hz
theorem cmbQ_tw {G : List (List Rat)} {x : List Int} {n A K : Nat} (hG : ∀ l ∈ G, ∀ r ∈ l, Tw A r) (hx : ∀ z ∈ x, z.natAbs ≤ K) : ∀ r ∈ cmbQ G (nbL x) n, Tw (G.length * (A * K)) r := fun r hr => by
  unfold cmbQ at hr
  obtain ⟨c, _, rfl⟩ := List.mem_map.1 hr
  exact sumR_tw _ fun k _ => cmbF_tw hG hx
end Go.Proofs.YtdidbebgbinncaaGreatDoor
