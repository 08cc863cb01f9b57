/- Part 35 of the proof of the claim: contracts of the functions that it reaches, and plain laws; no condition. -/
import Derived.Test.YtjnpakablgommaaGreatDoorV31
import Derived.Test.YtjnpakablgommaaGreatDoorV28
import Derived.Test.YtjnpakablgommaaGreatDoorV26
import Derived.Test.YtjnpakablgommaaGreatDoorV16
import Derived.Test.YtjnpakablgommaaGreatDoorV15
import Derived.Test.YtjnpakablgommaaGreatDoorV14
import Derived.Test.YtjnpakablgommaaGreatDoorV02
import Derived.Lib.Join
import Derived.BigQuiet
set_option maxRecDepth 100000
namespace Go.Proofs.YtjnpakablgommaaGreatDoor
open Go.RowKit Go.Sort
theorem blankZ_any {w : World} : Calls Tryz.prog 38 #[tuZ] w fun e w' => e = .returned (.bool true) ∧ Ext w w' := by
 have hX := (Ext.refl w).alloc (.cells #[.slice none 0 0, .slice none 0 0, .slice none 0 0, .slice none 0 0] 67)
 go_enter Tryz.func38, Tryz.ntmps38
 go_wp2_with fail
 go_ret
 exact ⟨rfl, hX⟩
section
open Go Go.Sort
variable {P : Program} {ops : Array Oper} {md : Region.Mode} {Q : Exit → Act → World → Prop} {S : World → Prop}
end
def longB (L : List (List UInt8 × List UInt8)) : Bool := L.any (fun p => decide (40 < p.1.length) || decide (40 < p.2.length)) || decide (8 < L.length)
theorem longB_no {L : List (List UInt8 × List UInt8)} (h : longB L = false) : (∀ p ∈ L, p.1.length ≤ 40 ∧ p.2.length ≤ 40) ∧ L.length ≤ 8 := by
 unfold longB at h
 rw [Bool.or_eq_false_iff, List.any_eq_false, decide_eq_false_iff_not] at h
 refine ⟨fun p hp => ?_, by omega⟩
 have := h.1 p hp
 rw [Bool.not_eq_true, Bool.or_eq_false_iff, decide_eq_false_iff_not, decide_eq_false_iff_not] at this
 omega
set_option maxHeartbeats 1000000 in
theorem long_any {w : World} {v : Value} {L : List (List UInt8 × List UInt8)} (hs : SzT w v L) (hl : L.length ≤ 9223372036854775807) :
  Calls Tryz.prog 24 #[v] w fun e w' => e = .returned (.bool (longB L)) ∧ Ext w w' := by
 obtain ⟨sa, gb, go, cap, rfl, hc, ha, hr⟩ := hs
 have Hr := Lib.hid hr
 have Ha := Lib.hid ha
 obtain ⟨n, hn⟩ : ∃ n, n = L.length := ⟨_, rfl⟩
 rw [← hn] at hc hl ⊢
 have Hn := Lib.hid hn
 have Hbad := Lib.hid (fun j (h : j < L.length) (hb : 40 < L[j].1.length ∨ 40 < L[j].2.length) => show longB L = true by
  unfold longB
  rw [Bool.or_eq_true, List.any_eq_true]
  refine .inl ⟨L[j], List.getElem_mem h, ?_⟩
  rw [Bool.or_eq_true, decide_eq_true_eq, decide_eq_true_eq]
  exact hb)
 have Hgood := Lib.hid (fun (h : ∀ j (hj : j < L.length), ¬ (40 < L[j].1.length ∨ 40 < L[j].2.length)) => show longB L = decide (8 < n) by
  unfold longB
  rw [List.any_eq_false.2 fun p hp => ?_, hn]
  ·rfl
  ·obtain ⟨j, hj, rfl⟩ := List.getElem_of_mem hp
   rw [Bool.not_eq_true, Bool.or_eq_false_iff, decide_eq_false_iff_not, decide_eq_false_iff_not]
   have := h j hj
   omega)
 generalize longB L = B at *
 clear hr ha hn
 go_enter Tryz.func24, Tryz.ntmps24
 go_wp2_with fail
 go_loopw [3] (fun iv wr => ∃ i : Nat, i ≤ n ∧ iv = .int .i64 i ∧ Hid (∀ j (hj : j < L.length), j < i → ¬ (40 < L[j].1.length ∨ 40 < L[j].2.length)) ∧ Ext w wr) (fun iv _ => n - (intOf iv).toNat)
 case atStart => exact ⟨0, by omega, by go_num, Lib.hid (fun j _ h => by omega), Ext.refl _⟩
 case round =>
  obtain ⟨i, hi, rfl, HA, hE⟩ := hrel
  generalize wr = X at *
  by_cases hlt : i < n
  ·have hii : (i : Int) < (n : Int) := by omega
   have hil : i < L.length := by rw [← Hn.out]; exact hlt
   obtain rfl := Ha.out (by rw [← Hn.out]; omega)
   obtain ⟨k0, k1⟩ := Hr.out i hil
   have x0 := hE.cell k0
   have x1 := hE.cell k1
   have Hb := Lib.hid (Hbad.out i hil)
   have HA2 := Lib.hid (fun (h : ¬ (40 < L[i].1.length ∨ 40 < L[i].2.length)) j (hj : j < L.length) (hji : j < i + 1) => show ¬ (40 < L[j].1.length ∨ 40 < L[j].2.length) by
    by_cases e : j = i
    ·subst e; exact h
    ·exact HA.out j hj (by omega))
   have h64 : i < 9223372036854775807 := by omega
   generalize L[i].1 = p at *
   generalize L[i].2 = q at *
   clear k0 k1 HA hil
   by_cases h1 : 40 < p.length
   ·have h1I : (40 : Int) < (p.length : Int) := by omega
    have HT := Lib.hid (Hb.out (.inl h1))
    clear Hb HA2 h1
    go_wp2_with fail
    go_ret
    exact ⟨ret_val (congrArg Value.bool HT.out.symm), hE⟩
   ·have h1I : ¬ (40 : Int) < (p.length : Int) := by omega
    by_cases h2 : 40 < q.length
    ·have h2I : (40 : Int) < (q.length : Int) := by omega
     have HT := Lib.hid (Hb.out (.inr h2))
     clear Hb HA2 h1 h2
     go_wp2_with fail
     go_ret
     exact ⟨ret_val (congrArg Value.bool HT.out.symm), hE⟩
    ·have h2I : ¬ (40 : Int) < (q.length : Int) := by omega
     have HA := Lib.hid (HA2.out (by omega))
     clear Hb HA2 h1 h2
     go_wp2_with fail
     go_roundw
     case rel => exact ⟨i + 1, by omega, by go_num, HA, hE⟩
     case measure => simp [intOf] <;> omega
  ·obtain rfl : i = n := by omega
   have hii : ¬ (i : Int) < (i : Int) := by omega
   have HB := Lib.hid (Hgood.out (fun j hj => HA.out j hj (by rw [Hn.out]; exact hj)))
   clear HA Hgood Hbad hlt
   by_cases h8 : 8 < i
   ·have h8I : (8 : Int) < (i : Int) := by omega
    rw [decide_eq_true h8] at HB
    clear h8
    go_wp2_with fail
    go_ret
    exact ⟨ret_val (congrArg Value.bool HB.out.symm), hE⟩
   ·have h8I : ¬ (8 : Int) < (i : Int) := by omega
    rw [decide_eq_false h8] at HB
    clear h8
    go_wp2_with fail
    go_ret
    exact ⟨ret_val (congrArg Value.bool HB.out.symm), hE⟩
def subTo (l f : List Rat) (i : Nat) : List Rat := (List.range l.length).map fun c => l.getD c 0 - (if c < i then f.getD c 0 else 0)
@[simp] theorem subTo_length (l f : List Rat) (i : Nat) : (subTo l f i).length = l.length := by simp [subTo]
theorem subTo_get {l f : List Rat} {i c : Nat} (h : c < (subTo l f i).length) : (subTo l f i)[c] = l.getD c 0 - (if c < i then f.getD c 0 else 0) := by simp [subTo]
theorem ratD_get {l : List Rat} {i : Nat} (h : i < l.length) : l.getD i 0 = l[i] := by rw [List.getD_eq_getElem?_getD, List.getElem?_eq_getElem h]; rfl
theorem subTo_zero (l f : List Rat) : subTo l f 0 = l := by
 refine List.ext_getElem (by simp) fun c h1 h2 => ?_
 rw [subTo_get, if_neg (by omega), ratD_get h2]; grind
theorem subTo_step {l f : List Rat} {i : Nat} (_ : i < l.length) : (subTo l f i).set i (l.getD i 0 - f.getD i 0) = subTo l f (i + 1) := by
 refine List.ext_getElem (by simp) fun c h1 h2 => ?_
 rw [List.getElem_set]
 by_cases e : i = c
 ·subst e
  rw [if_pos rfl, subTo_get, if_pos (by omega)]
 ·rw [if_neg e, subTo_get, subTo_get]
  by_cases h : c < i
  ·rw [if_pos h, if_pos (by omega)]
  ·rw [if_neg h, if_neg (by omega)]
theorem subTo_at {l f : List Rat} {i : Nat} (h : i < (subTo l f i).length) : (subTo l f i)[i] = l.getD i 0 := by
 rw [subTo_get, if_neg (by omega)]; grind
def erL (np : Nat) (M : Mx) (G : List (List Rat)) (x : List Int) : List Rat := subTo (tuL np M G x) (nbL x) np
@[simp] theorem erL_length (np : Nat) (M : Mx) (G : List (List Rat)) (x : List Int) : (erL np M G x).length = np := by simp [erL]
theorem mz_nd {x : List Int} (hx : ∀ z ∈ x, -1000 ≤ z ∧ z ≤ 1000) (c : Nat) : NdQ 4 ((nbL x).getD c 0) := by
 rw [List.getD_eq_getElem?_getD]
 by_cases h : c < (nbL x).length
 ·rw [List.getElem?_eq_getElem h, Option.getD_some]
  obtain ⟨z, hz, e⟩ := List.mem_map.1 (List.getElem_mem h)
  show NdQ 4 (nbL x)[c]
  rw [show (nbL x)[c] = (z : Rat) from e.symm]
  refine NdQ.of_int ?_
  have := hx z hz
  exact nDigits_le (u := z.natAbs) (k := 4) (by omega) (by omega)
 ·rw [List.getElem?_eq_none (by omega)]; exact NdQ.zero (by omega)
theorem tuL_ndD {np : Nat} {M : Mx} {G : List (List Rat)} {x : List Int} (h : ∀ r ∈ tuL np M G x, NdQ 200 r) (c : Nat) : NdQ 200 ((tuL np M G x).getD c 0) := by
 rw [List.getD_eq_getElem?_getD]
 by_cases h2 : c < (tuL np M G x).length
 ·rw [List.getElem?_eq_getElem h2, Option.getD_some]; exact h _ (List.getElem_mem h2)
 ·rw [List.getElem?_eq_none (by omega)]; exact NdQ.zero (by omega)
theorem erL_nd {np : Nat} {M : Mx} {G : List (List Rat)} {x : List Int} (h : ∀ r ∈ tuL np M G x, NdQ 200 r) (hx : ∀ z ∈ x, -1000 ≤ z ∧ z ≤ 1000) : ∀ r ∈ erL np M G x, NdQ 400 r := fun r hr => by
 unfold erL subTo at hr
 obtain ⟨c, _, rfl⟩ := List.mem_map.1 hr
 refine ((tuL_ndD h c).sub (F := 4) ?_).mono (by omega)
 split
 ·exact mz_nd hx c
 ·exact NdQ.zero (by omega)
def ErPost (w : World) (np : Nat) (M : Mx) (G : List (List Rat)) (x : List Int) (e : Ending) (w' : World) : Prop :=
 Ext w w' ∧ ((tuE np M x ≠ 0 ∧ e = .returned (.tuple #[.slice none 0 0, .int .i64 (tuE np M x)])) ∨ (tuE np M x = 0 ∧ szE (erL np M G x) ≠ 0 ∧ e = .returned (.tuple #[.slice none 0 0, .int .i64 4])) ∨ (tuE np M x = 0 ∧ szE (erL np M G x) = 0 ∧ ∃ g, e = .returned (.tuple #[slv g np np, .int .i64 0]) ∧ SzO w.heap.size w' g (erL np M G x)))
set_option maxHeartbeats 4000000 in
theorem tuError_any {w : World} {P : List Int} {C M : Mx} {G : List (List Rat)} {sp : Option Addr} {cp : Nat} {sc : Option Addr} {lc cc : Nat} {sm : Option Addr} {lm cm : Nat} {sg : Option Addr} {lg cg : Nat} {sx : Option Addr} {nx cx : Nat} {x : List Int} (h : TuV w P C M G sp cp sc lc cc sm lm cm sg lg cg) (hx : RowR w (.slice sx nx cx) x) (hL : Laid w) :
  Calls Tryz.prog 31 #[tuS P sp cp sc lc cc sm lm cm sg lg cg, .slice sx nx cx] w (ErPost w P.length M G x) := by
 have hte := Lib.hid (fun W (hW : Ext w W) => tempered_any (h.ext hW) (hx.ext hW) (hL.ext hW))
 have hpc := h.tm.pchk
 have hp4 := h.tm.ok.p4
 have hg4 : G.length ≤ 4 := by rw [h.ln]; exact h.tm.m4
 have Hnd := Lib.hid (fun (hs : tuE P.length M x = 0) => tuL_nd (np := P.length) h.sh (tuE_zero hs).2 hg4)
 have Hmz := Lib.hid (fun (hs : tuE P.length M x = 0) => mzE_zero (tuE_zero hs).1)
 have Hnum := Lib.hid (fun W (hW : Ext w W) (hs : tuE P.length M x = 0) => numbers_any (w := W) (v := .slice sx nx cx) (hx.ext hW) (by rw [(mzE_zero (tuE_zero hs).1).1]; omega) (fun z hz => by have := (mzE_zero (tuE_zero hs).1).2 z hz; unfold I64; omega) (hL.ext hW))
 have Hpc := Lib.hid hpc
 have HL := Lib.hid hL
 have hX := (Ext.refl w).alloc (.cells #[.slice sp P.length cp, .slice sc lc cc, .slice sm lm cm, .slice sg lg cg] 67)
 have x0 : (w.alloc (.cells #[.slice sp P.length cp, .slice sc lc cc, .slice sm lm cm, .slice sg lg cg] 67)).cell? ⟨w.heap.size, 0, none⟩ = some (.slice sp P.length cp) := by go_simp
 have x1 : (w.alloc (.cells #[.slice sp P.length cp, .slice sc lc cc, .slice sm lm cm, .slice sg lg cg] 67)).cell? ⟨w.heap.size, 1, none⟩ = some (.slice sc lc cc) := by go_simp
 have x2 : (w.alloc (.cells #[.slice sp P.length cp, .slice sc lc cc, .slice sm lm cm, .slice sg lg cg] 67)).cell? ⟨w.heap.size, 2, none⟩ = some (.slice sm lm cm) := by go_simp
 have x3 : (w.alloc (.cells #[.slice sp P.length cp, .slice sc lc cc, .slice sm lm cm, .slice sg lg cg] 67)).cell? ⟨w.heap.size, 3, none⟩ = some (.slice sg lg cg) := by go_simp
 have hwX : w.heap.size + 1 = (w.alloc (.cells #[.slice sp P.length cp, .slice sc lc cc, .slice sm lm cm, .slice sg lg cg] 67)).heap.size := by simp
 have Hsz := Lib.hid hwX
 clear h hx hg4 hpc hL hwX
 go_enter Tryz.func31, Tryz.ntmps31
 go_wp2_with fail
 refine (hte.out _ hX).mono ?_
 rintro e X1 ⟨hE1, (⟨hy, rfl⟩ | ⟨hy, g, rfl, hg, hO⟩)⟩
 ·have h2 : (tuE P.length M x == 0) = false := beq_eq_false_iff_ne.2 hy
  have h3 : (tuE P.length M x != 0) = true := by simp [bne, h2]
  have Hy := Lib.hid hy
  have Hdef := Lib.hid (fun (e : Ending) W (hE : Ext w W) (h : e = .returned (.tuple #[.slice none 0 0, .int .i64 (tuE P.length M x)])) => show ErPost w P.length M G x e W from ⟨hE, .inl ⟨Hy.out, h⟩⟩)
  generalize tuE P.length M x = y at *
  clear hy Hnd Hmz Hnum
  go_wp2_with fail
  go_ret2
  exact Hdef.out _ _ (hX.trans hE1) rfl
 ·have e1 := hX.trans hE1
  have HO := Lib.hid hO
  have Hy := Lib.hid hy
  have Hnd := Lib.hid (Hnd.out hy)
  have Hmz := Lib.hid (Hmz.out hy)
  have hnum := Lib.hid (Hnum.out X1 e1 hy)
  replace x0 := hE1.cell x0
  have Hgw := Lib.hid (show w.heap.size + 1 ≤ g by rw [Hsz.out]; exact hg)
  have Hgl := Lib.hid (OwnV.lt hO).2
  have Hln := Lib.hid (show (nbL x).length = P.length by rw [nbL_length]; exact Hmz.out.1)
  obtain ⟨l, hl⟩ : ∃ l, l = tuL P.length M G x := ⟨_, rfl⟩
  rw [← hl] at HO Hnd
  have Hll := Lib.hid (show l.length = P.length by rw [hl]; simp)
  obtain ⟨f, hf⟩ : ∃ f, f = nbL x := ⟨_, rfl⟩
  rw [← hf] at hnum Hln
  have Hsl := Lib.hid (fun c => show NdQ 200 (l.getD c 0) by rw [hl]; exact tuL_ndD (by rw [← hl]; exact Hnd.out) c)
  have Hsf := Lib.hid (fun c => show NdQ 4 (f.getD c 0) by rw [hf]; exact mz_nd Hmz.out.2 c)
  have Her := Lib.hid (show erL P.length M G x = subTo l f P.length by unfold erL; rw [hl, hf])
  have Hend := Lib.hid (erL_nd (np := P.length) (M := M) (G := G) (x := x) (by rw [← hl]; exact Hnd.out) Hmz.out.2)
  clear hO hy hte hg hE1 Hnum hl hf
  go_wp2_with fail
  refine hnum.out.mono ?_
  rintro e X2 ⟨⟨u, rfl, hu⟩, hE2⟩
  replace x0 := hE2.cell x0
  have e2 := e1.trans hE2
  replace HO := Lib.hid (HO.out.ext hE2)
  have Hu := Lib.hid hu
  obtain ⟨ua, ul, uc, rfl⟩ := hu.slice
  have hul : ul = P.length := by
   have := hu.read
   obtain ⟨_, _, _, _, e, _⟩ := this
   injection e with e4 e5 e6
   rw [e5, Hln.out]
  subst hul
  have hEB := Lib.hid (Below.refl g X2)
  have Hg2 := Lib.hid (show g ≤ X2.heap.size by have := hE2.size; have := Hgl.out; omega)
  clear hnum hE2 e1 hu
  go_wp2_with fail
  go_loopw [22] (fun iv wr => ∃ i : Nat, i ≤ P.length ∧ iv = .int .i64 i ∧ Hid (SzO (w.heap.size + 1) wr g (subTo l f i)) ∧ Hid (SzV X1.heap.size wr (.slice ua P.length uc) f) ∧ Hid (Below g X2 wr)) (fun iv _ => P.length - (intOf iv).toNat)
  case atStart => exact ⟨0, by omega, by go_num, Lib.hid (by rw [subTo_zero]; exact HO.out.mono (by rw [Hsz.out]; exact Nat.le_refl _)), Hu, hEB⟩
  case round =>
   obtain ⟨i, hi, rfl, HO, Hu, HB⟩ := hrel
   generalize wr = X at *
   have e0 := Lib.hid (show Ext w X from Below.trans e2 (HB.out.mono (by have := Hgw.out; have := e2.size; omega)))
   by_cases hlt : i < P.length
   ·have hii : (i : Int) < (P.length : Int) := by omega
    obtain ⟨ua', gb, uo', uc', eu, _, hua, hcu⟩ := Hu.out.read
    injection eu with eu1 eu2 eu3
    subst eu1
    obtain rfl := hua (by rw [Hln.out]; omega)
    obtain ⟨u0, u1⟩ := hcu i (by rw [Hln.out]; exact hlt)
    rw [← ratD_get (show i < f.length by rw [Hln.out]; exact hlt)] at u0 u1
    have hil : i < (subTo l f i).length := by rw [subTo_length, Hll.out]; exact hlt
    obtain ⟨t0, t1⟩ := HO.out.cells hil
    rw [subTo_at hil] at t0 t1
    have Hst := Lib.hid (subTo_step (f := f) (show i < l.length by rw [Hll.out]; exact hlt))
    have Hil := Lib.hid hil
    have hsb := Lib.hid (fun W (hW : Ext X W) => ratSub_any (a := l.getD i 0) (b := f.getD i 0) ((Hsl.out i).smQ (by omega)) ((Hsf.out i).smQ (by omega)) (HL.out.ext (e0.out.trans hW)))
    obtain ⟨t, ht⟩ : ∃ t, t = l.getD i 0 := ⟨_, rfl⟩
    obtain ⟨s, hs⟩ : ∃ s, s = f.getD i 0 := ⟨_, rfl⟩
    rw [← ht] at t0 t1 Hst hsb
    rw [← hs] at u0 u1 Hst hsb
    have dA := (Ext.refl X).alloc (.cells #[I s.num, I s.den] 81)
    have hOn := two_alloc X 81 (I s.num) (I s.den)
    have z0 := hOn.cell (j := 0) (by simp)
    have z1 := hOn.cell (j := 1) (by simp)
    simp only [List.getElem_cons_zero, List.getElem_cons_succ] at z0 z1
    clear hil hlt ht hs hcu hua eu2 eu3 hOn
    obtain ⟨bn, hbn⟩ : ∃ bn, bn = X.heap.size := ⟨_, rfl⟩
    rw [← hbn] at z0 z1
    have Hbn := Lib.hid hbn
    clear hbn
    go_wp2_with fail
    rw [← Hbn.out]
    generalize X.alloc (.cells #[I s.num, I s.den] 81) = XA at *
    replace t0 := dA.cell t0
    replace t1 := dA.cell t1
    have d0 : Ext XA XA.drew := (Ext.refl XA).drew
    refine wp_region_held_tail (S := fun W => Ext XA W) 8 (by kernel_rfl) (by simp) ?_
    intro inv
    generalize XA.drew = XB at *
    refine wpAnyLH_take (i := 0) (v := slv g P.length P.length) rfl (by kernel_rfl) (fun _ _ _ h => h) (.inl ⟨by rfl, fun W hW => by go_simp⟩) d0 inv ?_
    intro inv
    go_simp
    refine wpAnyLH_take (i := 1) (v := .int .i64 i) rfl (by kernel_rfl) (fun _ _ _ h => h) (.inl ⟨by rfl, fun W hW => by go_simp⟩) d0 inv ?_
    intro inv
    go_simp
    refine wpAnyLH_take (i := 2) (v := slv g P.length P.length) rfl (by kernel_rfl) (fun _ _ _ h => h) (.inl ⟨by rfl, fun W hW => by go_simp⟩) d0 inv ?_
    intro inv
    go_simp
    refine wpAnyLH_take (i := 3) (v := .int .i64 i) rfl (by kernel_rfl) (fun _ _ _ h => h) (.inl ⟨by rfl, fun W hW => by go_simp⟩) d0 inv ?_
    intro inv
    go_simp
    refine wpAnyLH_take (i := 4) (v := .pointer (some ⟨g, i * 2, none⟩)) rfl (by kernel_rfl) (fun _ _ _ h => h) (.inl ⟨by rfl, fun W hW => by go_simp⟩) d0 inv ?_
    intro inv
    go_simp
    refine wpAnyLH_take (i := 5) (v := RV t) rfl (by kernel_rfl) (fun _ _ _ h => h) (.inl ⟨by rfl, fun W hW => by have y0 := hW.cell t0; have y1 := hW.cell t1; go_simp⟩) d0 inv ?_
    intro inv
    go_simp
    refine wpAnyLH_take (i := 6) (v := RV s) rfl (by kernel_rfl) (fun _ _ _ h => h) (.inl ⟨by rfl, fun W hW => by have y0 := hW.cell z0; have y1 := hW.cell z1; go_simp⟩) d0 inv ?_
    intro inv
    go_simp
    refine wpAnyLH_oneI (i := 7) rfl (by kernel_rfl) inv (fun inv K0 hK0 => ?_)
    go_simp
    refine (hsb.out _ (dA.trans d0)).mono ?_
    rintro e XC ⟨rfl, hG1⟩
    have d1 := d0.trans hG1
    refine hK0 _ _ d1 ?_
    clear hK0
    refine wpAnyLH_end (by kernel_rfl) ?_
    have eC := dA.trans d1
    obtain ⟨⟨ca, cb, y0, y1⟩, f0', f1', HO9, hB9, hG9⟩ := SzO.stepB (HB.out.trans (Below.mono eC (by have := HB.out.size; have := Hg2.out; omega))) Hg2.out (Nat.le_refl g) (HO.out.ext eC) Hil.out (t - s)
    rw [Hst.out] at HO9
    have Hu9 := Lib.hid ((Hu.out.ext eC).kept hG9.out Hgl.out)
    clear hsb inv d0 d1 hG1 t0 t1 z0 z1 u0 u1 HO Hu HB eC dA
    go_wp2_with fail
    go_roundw
    case rel => exact ⟨i + 1, by omega, by go_num, HO9, Hu9, hB9⟩
    case measure => simp [intOf] <;> omega
   ·obtain rfl : i = P.length := by omega
    have hii : ¬ (P.length : Int) < (P.length : Int) := by omega
    have y0 : X.cell? ⟨w.heap.size, 0, none⟩ = some (.slice sp P.length cp) := by rw [Below.cell HB.out (show w.heap.size < g by have := Hgw.out; omega)]; exact x0
    have HO := Lib.hid (show SzO (w.heap.size + 1) X g (erL P.length M G x) by rw [Her.out]; exact HO.out)
    have hz : SzR X (slv g P.length P.length) (erL P.length M G x) := by
     have := HO.out.val.read
     rwa [erL_length] at this
    clear x0 hlt
    by_cases h0 : szE (erL P.length M G x) = 0
    ·have hrs := Lib.hid (tuResult_yes (pa := sp) (cp := cp) h0 (fun W hW => Hpc.out W (e0.out.trans hW)) hz (erL_length _ _ _ _) Hend.out (by omega) (HL.out.ext e0.out))
     have H0 := Lib.hid h0
     clear h0 hz
     go_wp2_with fail
     refine hrs.out.mono ?_
     rintro e X9 ⟨rfl, hE9⟩
     go_wp2_with fail
     go_ret2
     exact ⟨e0.out.trans hE9, .inr (.inr ⟨Hy.out, H0.out, g, rfl, (HO.out.ext hE9).mono (by omega)⟩)⟩
    ·have hrs := Lib.hid (tuResult_no (pa := sp) (cp := cp) h0 (fun W hW => Hpc.out W (e0.out.trans hW)) hz (erL_length _ _ _ _) Hend.out (by omega) (HL.out.ext e0.out))
     have H0 := Lib.hid h0
     clear h0 hz
     go_wp2_with fail
     refine hrs.out.mono ?_
     rintro e X9 ⟨rfl, hE9⟩
     go_wp2_with fail
     go_ret2
     exact ⟨e0.out.trans hE9, .inr (.inl ⟨Hy.out, H0.out, rfl⟩)⟩
end Go.Proofs.YtjnpakablgommaaGreatDoor
namespace Go.Proofs.YtjnpakablgommaaGreatDoor
open Go.RowKit Go.Sort
open Hnf (V Span)
def unitL (r i : Nat) : List Int := (List.replicate r 0).set i 1
@[simp] theorem unitL_length (r i : Nat) : (unitL r i).length = r := by simp [unitL]
theorem unitL_getD {r i : Nat} (hi : i < r) (k : Nat) : (unitL r i).getD k 0 = if k = i then 1 else 0 := by
 unfold unitL
 rw [List.getD_eq_getElem?_getD, List.getElem?_set]
 by_cases h : k = i
 ·subst h
  simp [hi]
 ·rw [if_neg (fun e => h e.symm), if_neg h, List.getElem?_replicate]
  split <;> rfl
end Go.Proofs.YtjnpakablgommaaGreatDoor
namespace Go.Proofs.YtjnpakablgommaaGreatDoor
open Go.RowKit Go.Sort
set_option maxHeartbeats 1000000 in
theorem rowZero_ok {w : World} {n : Nat} (hn : n ≤ 64) :
  Calls Tryz.prog 145 #[.int .i64 n] w fun e w' => ∃ g, e = .returned (.tuple #[slv g n n, .int .i64 0]) ∧ OwnV 3 w.heap.size w' g n (is (List.replicate n 0)) ∧ Ext w w' := by
 obtain ⟨i0, hi, hz0, hz1, hz2⟩ := info_parts Tryz.infoInt
 have h1 : ¬ (n : Int) < 0 := by omega
 have h2 : ¬ (n : Int) > 64 := by omega
 have h3 : ¬ (64 : Int) < (n : Int) := by omega
 go_enter Tryz.func145, Tryz.ntmps145
 go_wp2_with (at_make; refine wpList_make_full _ rfl _ _ 30 rfl w.heap.size 3 i0 (.int .i64 0) 1 Tryz.underlying30 hi hz0 hz1 .i64 .i64 _ _ n rfl rfl (by omega) (by omega) (by rw [hz2]; omega) (by unfold maxLen; omega) (Nat.le_refl _) ?_; intro w1 hown1 hgrow1)
 have hE1 := ext_grown hgrow1
 have hb0 : OwnV 3 w.heap.size w1 w.heap.size n (is (List.replicate n 0)) := row_ownV (zero_row hown1) (by simp)
 have Hb := Lib.hid hb0
 clear hb0 hown1 hgrow1
 go_wp2_with fail
 go_ret2
 exact ⟨_, rfl, Hb.out, hE1⟩
set_option maxHeartbeats 1000000 in
theorem rowUnit_ok {w : World} {n i : Nat} (hn : n ≤ 64) (hi : i < n) :
  Calls Tryz.prog 90 #[.int .i64 n, .int .i64 i] w fun e w' => ∃ g, e = .returned (.tuple #[slv g n n, .int .i64 0]) ∧ OwnV 3 w.heap.size w' g n (is (unitL n i)) ∧ Ext w w' := by
 have hz := Lib.hid (rowZero_ok (w := w) hn)
 have h1 : ¬ (i : Int) < 0 := by omega
 have h2 : ¬ (i : Int) ≥ (n : Int) := by omega
 have h3 : ¬ (n : Int) ≤ (i : Int) := by omega
 have h4 : (i : Int) < (n : Int) := by omega
 go_enter Tryz.func90, Tryz.ntmps90
 go_wp2_with fail
 refine hz.out.mono ?_
 rintro e w1 ⟨g, rfl, hO, hE1⟩
 have hcl := hO.cell (j := i) (by simpa using hi)
 have hfz := hO.frozen i
 obtain ⟨hO2, hG⟩ := hO.set i (.int .i64 1)
 rw [← is_set] at hO2
 have hE2 := ext_trans_grown hE1 hG hO.lt.1
 have Hq := Lib.hid (And.intro hO2 hE2)
 clear hz hO hO2 hE2 hG
 go_wp2_with fail
 go_ret2
 exact ⟨g, rfl, Hq.out.1, Hq.out.2⟩
theorem sumZ_unit {n : Nat} {v : List Int} (hn : 0 < n) : ∀ k, k ≤ n → sumZ (fun i => (unitL n 0).getD i 0 * v.getD i 0) k = if k = 0 then 0 else v.getD 0 0
 | 0, _ => rfl
 | k + 1, h => by
  rw [sumZ, sumZ_unit hn k (by omega), unitL_getD hn]
  by_cases h0 : k = 0
  ·subst h0; simp
  ·rw [if_neg h0, if_neg h0, if_neg (by omega)]; simp
theorem tmp_unit {n : Nat} {M : Mx} (hn : 0 < n) (hM : SmK M) : smallB (tmpL M (unitL n 0)) = true := by
 rw [smallB_iff]
 intro z hz
 obtain ⟨v, hv, rfl⟩ := List.mem_map.1 hz
 have h := sumZ_unit (v := v) hn n (Nat.le_refl _)
 rw [if_neg (by omega)] at h
 have e : tmpE (unitL n 0) v = v.getD 0 0 := by
  unfold tmpE; rw [unitL_length]; exact h
 rw [e]
 exact getD_bd9 (hM v hv) 0
theorem unit_mem {n i : Nat} {z : Int} (h : z ∈ unitL n i) : z = 0 ∨ z = 1 := by
 unfold unitL at h
 rcases List.mem_or_eq_of_mem_set h with h | h
 ·exact .inl (List.mem_replicate.1 h).2
 ·exact .inr h
theorem mz_unit (n i : Nat) : mzE n (unitL n i) = 0 := by
 unfold mzE
 rw [if_pos (by simp), if_pos]
 unfold mzS
 rw [List.all_eq_true]
 intro z hz
 rcases unit_mem hz with rfl | rfl <;> decide
theorem tu_unit {n : Nat} {M : Mx} (hn : 0 < n) (hM : SmK M) : tuE n M (unitL n 0) = 0 := by
 unfold tuE
 rw [if_pos (mz_unit n 0), if_pos (tmp_unit hn hM)]
set_option maxHeartbeats 4000000 in
theorem tuPure_any {w : World} {P : List Int} {C M : Mx} {G : List (List Rat)} {sp : Option Addr} {cp : Nat} {sc : Option Addr} {lc cc : Nat} {sm : Option Addr} {lm cm : Nat} {sg : Option Addr} {lg cg : Nat} (h : TuV w P C M G sp cp sc lc cc sm lm cm sg lg cg) (hL : Laid w) :
  Calls Tryz.prog 32 #[tuS P sp cp sc lc cc sm lm cm sg lg cg] w fun e w' => e = .returned (.tuple #[.bool (decide (tuL P.length M G (unitL P.length 0) = nbL (unitL P.length 0))), .int .i64 0]) ∧ Ext w w' := by
 have hck := Lib.hid (fun W (hW : Ext w W) => tuCheck_any (h.ext hW) (hL.ext hW))
 have hp4 := h.tm.ok.p4
 have hp0 := h.tm.ok.p0
 have h0 := tu_unit hp0 h.tm.ok.sM
 have hun := Lib.hid (fun W => rowUnit_ok (w := W) (n := P.length) (i := 0) (by omega) hp0)
 have hte := Lib.hid (fun W g (hW : Ext w W) (hx : RowR W (slv g P.length P.length) (unitL P.length 0)) => tempered_any (h.ext hW) hx (hL.ext hW))
 have hnm := Lib.hid (fun W g (hW : Ext w W) (hx : RowR W (slv g P.length P.length) (unitL P.length 0)) => numbers_any hx (by rw [unitL_length]; omega) (fun z hz => by unfold I64; rcases unit_mem hz with rfl | rfl <;> omega) (hL.ext hW))
 have heq := Lib.hid (fun W va vb (ha : SzR W va (tuL P.length M G (unitL P.length 0))) (hb : SzR W vb (nbL (unitL P.length 0))) => eqQ_any ha hb (by rw [tuL_length]; omega))
 have H0 := Lib.hid h0
 have Hll := Lib.hid (tuL_length P.length M G (unitL P.length 0))
 have hX := (Ext.refl w).alloc (.cells #[.slice sp P.length cp, .slice sc lc cc, .slice sm lm cm, .slice sg lg cg] 67)
 have x0 : (w.alloc (.cells #[.slice sp P.length cp, .slice sc lc cc, .slice sm lm cm, .slice sg lg cg] 67)).cell? ⟨w.heap.size, 0, none⟩ = some (.slice sp P.length cp) := by go_simp
 have x1 : (w.alloc (.cells #[.slice sp P.length cp, .slice sc lc cc, .slice sm lm cm, .slice sg lg cg] 67)).cell? ⟨w.heap.size, 1, none⟩ = some (.slice sc lc cc) := by go_simp
 have x2 : (w.alloc (.cells #[.slice sp P.length cp, .slice sc lc cc, .slice sm lm cm, .slice sg lg cg] 67)).cell? ⟨w.heap.size, 2, none⟩ = some (.slice sm lm cm) := by go_simp
 have x3 : (w.alloc (.cells #[.slice sp P.length cp, .slice sc lc cc, .slice sm lm cm, .slice sg lg cg] 67)).cell? ⟨w.heap.size, 3, none⟩ = some (.slice sg lg cg) := by go_simp
 generalize decide (tuL P.length M G (unitL P.length 0) = nbL (unitL P.length 0)) = q at *
 clear h h0 hL
 go_enter Tryz.func32, Tryz.ntmps32
 go_wp2_with fail
 refine (hck.out _ hX).mono ?_
 rintro e X0 ⟨rfl, hE0⟩
 have e0 := hX.trans hE0
 replace x0 := hE0.cell x0
 replace x1 := hE0.cell x1
 replace x2 := hE0.cell x2
 replace x3 := hE0.cell x3
 clear hck hX hE0
 go_wp2_with fail
 refine (hun.out _).mono ?_
 rintro e X1 ⟨g, rfl, hO, hE1⟩
 have e1 := e0.trans hE1
 replace x0 := hE1.cell x0
 replace x1 := hE1.cell x1
 replace x2 := hE1.cell x2
 replace x3 := hE1.cell x3
 have HR := Lib.hid (show RowR X1 (slv g P.length P.length) (unitL P.length 0) from ⟨_, g, 0, P.length, by rw [unitL_length], by rw [unitL_length]; exact Nat.le_refl _, hO.sl⟩)
 clear hun hE1 hO e0
 go_wp2_with fail
 refine (hte.out _ _ e1 HR.out).mono ?_
 rintro e X2 ⟨hE2, (⟨hy, rfl⟩ | ⟨_, g2, rfl, hg2, hO2⟩)⟩
 ·exact absurd H0.out hy
 have e2 := e1.trans hE2
 have HR2 := Lib.hid (HR.out.ext hE2)
 have HS2 := Lib.hid hO2
 clear hte hO2 hE2 x0 x1 x2 x3 hg2
 go_wp2_with fail
 refine (hnm.out _ _ e2 HR2.out).mono ?_
 rintro e X3 ⟨⟨u, rfl, hu⟩, hE3⟩
 have e3 := e2.trans hE3
 have hq := Lib.hid (heq.out X3 (slv g2 P.length P.length) u (by have := (HS2.out.ext hE3).val.read; rwa [Hll.out] at this) hu.read)
 obtain ⟨ua, un, uc, rfl⟩ := hu.slice
 clear hnm heq hu hE3
 go_wp2_with fail
 refine hq.out.mono ?_
 rintro e X4 ⟨rfl, hE4⟩
 go_wp2_with fail
 go_ret2
 exact ⟨rfl, e3.trans hE4⟩
def frT (r : Rat) : List UInt8 := if r.den = 1 then Lib.itoa r.num else Lib.itoa r.num ++ 47 :: Lib.itoa r.den
theorem ba_app (a b : List UInt8) : (⟨a.toArray⟩ : ByteArray) ++ ⟨b.toArray⟩ = ⟨(a ++ b).toArray⟩ := ByteArray.ext (by simp)
theorem itoa_len (z : Int) : (Lib.itoa z).length ≤ nd z + 1 := by
 rcases Int.lt_or_le z 0 with h | h
 ·rw [itoa_neg h, List.length_cons, Lib.decDigits_length]; exact Nat.le_refl _
 ·rw [itoa_pos h, Lib.decDigits_length]; exact Nat.le_succ _
theorem fText_any {r : Rat} (hr : nd r.num ≤ 1000 ∧ nd r.den ≤ 1000) (w : World) : Calls Tryz.prog 154 #[RV r] w fun e w' => e = .returned (S (frT r)) ∧ Ext w w' := by
 show Calls Tryz.prog 154 #[.agg #[I r.num, I r.den]] w _
 have hX := (Ext.refl w).alloc (.cells #[I r.num, I r.den] 81)
 have l1 := itoa_len r.num
 have l2 := itoa_len r.den
 have h1 := itoa_eq_1 (r.den : Int)
 have hft : frT r = if r.den = 1 then Lib.itoa r.num else Lib.itoa r.num ++ 47 :: Lib.itoa r.den := rfl
 by_cases hd : r.den = 1
 ·rw [if_pos hd] at hft
  rw [decide_eq_true (show (r.den : Int) = 1 by omega)] at h1
  rw [hft]
  unfold I S at *
  generalize Lib.itoa r.num = ln at *
  generalize Lib.itoa r.den = ld at *
  clear hd hft
  go_enter Tryz.func154, Tryz.ntmps154
  go_wp2_with fail
  go_ret
  exact ⟨rfl, hX⟩
 ·rw [if_neg hd] at hft
  rw [decide_eq_false (show ¬ (r.den : Int) = 1 by omega)] at h1
  rw [hft]
  unfold I S at *
  generalize Lib.itoa r.num = ln at *
  generalize Lib.itoa r.den = ld at *
  have l3 : ln.length ≤ 1001 := by omega
  have l4 : ld.length ≤ 1001 := by omega
  clear hd hft l1 l2 hr
  go_enter Tryz.func154, Tryz.ntmps154
  go_wp2_with fail
  go_ret
  exact ⟨ret_val (congrArg Value.string (by
   show (⟨ln.toArray⟩ : ByteArray) ++ ⟨[47].toArray⟩ ++ ⟨ld.toArray⟩ = _
   rw [ba_app, ba_app, List.append_assoc]; rfl)), hX⟩
theorem number13_any {n : Int} (hn : -9223372036854775808 ≤ n ∧ n ≤ 9223372036854775807) {w : World} (hL : Laid w) :
  Calls Tryz.prog 153 #[.int .i64 n] w fun e w' => e = .returned (RV (n : Rat)) ∧ Ext w w' := by
 have ho := Lib.hid (fun W (hW : Ext w W) => wholeOf_any hn.1 hn.2 (hL.ext hW))
 have hN := two_alloc w 81 (.string ⟨#[]⟩) (.string ⟨#[]⟩)
 have hX : Ext w (w.alloc (.cells #[.string ⟨#[]⟩, .string ⟨#[]⟩] 81)) := (Ext.refl w).alloc _
 have hv : RV (n : Rat) = .agg #[I n, .string ⟨#[49]⟩] := by
  show Value.agg #[I ((n : Rat)).num, I (((n : Rat)).den : Int)] = _
  rw [show ((n : Rat)).num = n by simp, show ((((n : Rat)).den : Nat) : Int) = 1 by simp]
  unfold I S; rw [itoa_one]
 rw [hv]
 clear hL hn hv
 go_enter Tryz.func153, Tryz.ntmps153
 go_wp2_with fail
 refine (ho.out _ hX).mono ?_
 rintro e W ⟨rfl, hE⟩
 have e1 := hX.trans hE
 obtain ⟨y0, y1, f0, f1, r0, r1, hF9⟩ := two_end e1 (Nat.le_refl _) (hN.ext hE) (I n) (.string ⟨#[49]⟩)
 clear hN hX hE e1
 go_wp2_with fail
 refine bodyPost_ret (v := .agg #[I n, .string ⟨#[49]⟩]) (by simp [results, Tryz.results153, go_sem, r0, r1]) rfl ⟨rfl, hF9.out⟩
def StrO (B : Nat) (w : World) (v : Value) (xs : List ByteArray) : Prop := w.ownsRow B 9 1 v xs.length (xs.map .string)
theorem StrO.nil (B : Nat) (w : World) : StrO B w (.slice none 0 0) [] := ⟨rfl, .inl ⟨rfl, rfl⟩⟩
theorem StrO.ext {B : Nat} {w w' : World} {v : Value} {xs : List ByteArray} (h : StrO B w v xs) (he : Ext w w') : StrO B w' v xs := ownsRow_ext h he
theorem StrO.mono {B B' : Nat} {w : World} {v : Value} {xs : List ByteArray} (h : StrO B w v xs) (hB : B' ≤ B) : StrO B' w v xs := ownsRow_mono h hB
theorem StrO.shape {B : Nat} {w : World} {v : Value} {xs : List ByteArray} (h : StrO B w v xs) (h0 : 0 < xs.length) : ∃ g cap, v = slv g xs.length cap ∧ xs.length ≤ cap ∧ g < w.heap.size ∧ ∀ (j : Nat) x, xs[j]? = some x → w.cell? ⟨g, 0 + j, none⟩ = some (.string x) := by
 have hl := World.ownsRow.lt h
 rcases h.2 with ⟨_, he⟩ | ⟨g, cap, cur, rfl, hb, hg, hn, hm, hs, ht⟩
 ·rw [he] at h0; cases h0
 ·refine ⟨g, cap, rfl, hn, (hl g rfl).2, fun j x hj => ?_⟩
  have hj2 : j < xs.length := (List.getElem?_eq_some_iff.1 hj).1
  have := World.ownsRow.cellAt h j (by omega)
  rw [Nat.zero_add, this, List.getElem?_map, hj]; rfl
theorem Tryz.infoByt : (Tryz.prog.info? 9).map (fun i => (i.zero, i.size, i.bytes)) = some (some (.string ⟨#[]⟩), 1, 16) := by kernel_rfl
theorem one_byt (z : ByteArray) : ∀ u ∈ [Value.string z], u.oneCell' = true := fun u hu => by
 simp only [List.mem_cons, List.not_mem_nil, or_false] at hu
 subst hu; rfl
section
variable {w : World} {ops : Array Oper} {rest : List Oper} {o : Oper} {a : Act} {Q : Exit → Act → World → Prop}
theorem app_str (hgd : o.guard = none) (s x : Operand) (t : TypeId) (ht : Tryz.prog.underlying t = some (.slice 9)) (ho : o.op = .call { callee := .builtin .append, args := #[s, x], argTypes := #[t, t] })
  {B : Nat} {v : Value} {r : List ByteArray} (hs : a.eval s = v) (hown : StrO B w v r) {b : Nat} {z : ByteArray} (hx : a.eval x = .slice (some ⟨b, 0, none⟩) 1 1) (hc : w.cell? ⟨b, 0, none⟩ = some (.string z)) (hl : r.length ≤ 1000000000) (hB : B ≤ w.heap.size)
  (h : ∀ g cap w', StrO B w' (slv g (r.length + 1) cap) (r ++ [z]) → Below B w w' → w.grownBy w' v.ownBlock → wpList Tryz.prog ops Q rest (a.put o.dst (slv g (r.length + 1) cap)) w') : wpList Tryz.prog ops Q (o :: rest) a w := by
 obtain ⟨i0, hi, hz0, hz1, hz2⟩ := info_parts Tryz.infoByt
 refine wpList_append_lies w hgd s x t ho B 9 i0 _ 1 16 ht hi hz0 hz1 hz2 rfl (by omega) v r.length (r.map Value.string) hs hown ⟨b, 0, none⟩ 1 1 [.string z] hx rfl ?_ (one_byt z) (by omega) (by unfold maxLen; omega) (by omega) hB w.heap.size rfl ?_
 ·intro j u hj
  have : j = 0 := by have := (List.getElem?_eq_some_iff.1 hj).1; simp at this; omega
  subst this
  simp only [List.getElem?_cons_zero, Option.some.injEq] at hj
  subst hj
  simpa [Addr.add_lit] using hc
 ·intro g cap w' h1 h2 h3 h4
  refine h g cap w' ?_ (Below.grown (Below.refl _ _) h2 hB (fun q hq => (World.ownsRow.lt hown q hq).1)) h2
  unfold StrO
  rw [List.map_append, List.length_append]; exact h1
end
def tmX (p : Int) (r : Rat) : List UInt8 := if r = 1 then Lib.itoa p else if r.den = 1 ∧ 0 < r.num then Lib.itoa p ++ 94 :: frT r else Lib.itoa p ++ 94 :: 40 :: (frT r ++ [41])
def szX (P : List Int) (l : List Rat) : Nat → List ByteArray
 | 0 => []
 | k + 1 => szX P l k ++ (if l.getD k 0 = 0 then [] else [⟨(tmX (P.getD k 0) (l.getD k 0)).toArray⟩])
theorem szX_le (P : List Int) (l : List Rat) : ∀ k, (szX P l k).length ≤ k
 | 0 => Nat.le_refl _
 | k + 1 => by
  rw [szX, List.length_append]
  have := szX_le P l k
  split <;> simp <;> omega
theorem frT_len {r : Rat} (h : nd r.num ≤ 30 ∧ nd r.den ≤ 30) : (frT r).length ≤ 63 := by
 have l1 := itoa_len r.num
 have l2 := itoa_len (r.den : Int)
 unfold frT
 split
 ·omega
 ·rw [List.length_append, List.length_cons]; omega
theorem tmX_len {p : Int} {r : Rat} (h : nd r.num ≤ 30 ∧ nd r.den ≤ 30) (hp : (Lib.itoa p).length ≤ 21) : (tmX p r).length ≤ 90 := by
 have := frT_len h
 unfold tmX
 split
 ·omega
 ·split <;> simp <;> omega
theorem szX_len {P : List Int} {l : List Rat} (h : ShQ l) (hp : ∀ k, (Lib.itoa (P.getD k 0)).length ≤ 21) : ∀ k, ∀ x ∈ szX P l k, x.data.toList.length ≤ 90
 | 0, x, hx => by simp [szX] at hx
 | k + 1, x, hx => by
  rw [szX] at hx
  rcases List.mem_append.1 hx with h1 | h1
  ·exact szX_len h hp k x h1
  ·split at h1
   ·simp at h1
   ·rename_i h0
    simp only [List.mem_cons, List.not_mem_nil, or_false] at h1
    subst h1
    show (tmX (P.getD k 0) (l.getD k 0)).toArray.toList.length ≤ 90
    rw [List.toList_toArray]
    refine tmX_len ?_ (hp k)
    rw [List.getD_eq_getElem?_getD]
    by_cases hk : k < l.length
    ·rw [List.getElem?_eq_getElem hk]; exact h _ (List.getElem_mem hk)
    ·rw [List.getElem?_eq_none (by omega)]
     exact ⟨by show nd (0 : Rat).num ≤ 30; rw [show (0 : Rat).num = 0 from rfl, nd_0]; omega, by show nd ((0 : Rat).den : Int) ≤ 30; rw [show (((0 : Rat).den : Nat) : Int) = 1 from rfl, nd_1]; omega⟩
theorem joinTailA_le {b : Nat} (s : List UInt8) : ∀ {r : List (List UInt8)}, (∀ x ∈ r, x.length ≤ b) → (Lib.joinTail s r).length ≤ (b + s.length) * r.length
 | [], _ => by simp [Lib.joinTail]
 | x :: t, h => by
  have h1 := joinTailA_le s (r := t) (fun y hy => h y (by simp [hy]))
  have h2 := h x (by simp)
  have e : Lib.joinTail s (x :: t) = (s ++ x) ++ Lib.joinTail s t := by simp [Lib.joinTail]
  rw [e, List.length_append, List.length_append]
  simp only [List.length_cons, Nat.mul_succ]
  omega
theorem joinA_le {b : Nat} (s : List UInt8) {r : List (List UInt8)} (h : ∀ x ∈ r, x.length ≤ b) : (Lib.join r s).length ≤ (b + s.length) * r.length := by
 cases r with
 | nil => simp [Lib.join_nil]
 | cons x t =>
  rw [Lib.join_cons, List.length_append]
  simp only [List.length_cons, Nat.mul_succ]
  have h1 := joinTailA_le s (r := t) (fun y hy => h y (by simp [hy]))
  have h2 := h x (by simp)
  omega
def joinA (xs : List ByteArray) (s : List UInt8) : ByteArray := ⟨(Lib.join (xs.map (·.data.toList)) s).toArray⟩
theorem joinA_any {w : World} {B L g cap : Nat} {xs : List ByteArray} {s : List UInt8} (h : StrO B w (slv g L cap) xs) (hL : xs.length = L) (h0 : 0 < L) (h1 : L ≤ 1000) (hj : (Lib.join (xs.map (·.data.toList)) s).length ≤ 1000000) :
  Calls Tryz.prog 96 #[slv g L cap, .string ⟨s.toArray⟩] w fun e w' => e = .returned (.string (joinA xs s)) ∧ Ext w w' := by
 subst hL
 obtain ⟨g', cap', e, hc, hg, hx⟩ := h.shape h0
 injection e with e1 e2 e3
 injection e1 with e1
 injection e1 with e1
 subst e1 e3
 have := Tryz.strings_Join g 0 cap xs ⟨s.toArray⟩ w hx hg (by omega) hc (by show (Lib.join _ s.toArray.toList).length ≤ _; rw [List.toList_toArray]; omega)
 rw [show ((⟨s.toArray⟩ : ByteArray).data.toList) = s from List.toList_toArray] at this
 exact this
theorem StrO.sh {w : World} {B L : Nat} {v : Value} {xs : List ByteArray} (h : StrO B w v xs) (hL : xs.length = L) (h0 : 0 < L) : ∃ g cap, v = slv g L cap := by
 subst hL
 obtain ⟨g, cap, e, _⟩ := h.shape h0
 exact ⟨g, cap, e⟩
theorem StrO.slice {B : Nat} {w : World} {v : Value} {xs : List ByteArray} (h : StrO B w v xs) : ∃ a c, v = .slice a xs.length c := by
 rcases h.2 with ⟨rfl, h0⟩ | ⟨g, cap, cur, rfl, _⟩
 ·exact ⟨_, _, by rw [h0]⟩
 ·exact ⟨_, _, rfl⟩
def szTx (P : List Int) (l : List Rat) : ByteArray := if szX P l l.length = [] then ⟨#[49]⟩ else joinA (szX P l l.length) [32]
end Go.Proofs.YtjnpakablgommaaGreatDoor
