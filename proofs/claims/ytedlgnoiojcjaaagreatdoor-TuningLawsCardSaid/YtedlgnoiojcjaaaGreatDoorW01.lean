/- Part 1, beside the shared parts, of the proof of the claim: contracts and plain laws; no condition. -/
import Derived.Test.YtedlgnoiojcjaaaGreatDoorV01
import Derived.Test.YtedlgnoiojcjaaaGreatDoorV02
import Derived.Test.YtedlgnoiojcjaaaGreatDoorV03
import Derived.Test.YtedlgnoiojcjaaaGreatDoorV04
import Derived.Test.YtedlgnoiojcjaaaGreatDoorV05
import Derived.Test.YtedlgnoiojcjaaaGreatDoorV06
import Derived.Test.YtedlgnoiojcjaaaGreatDoorV07
import Derived.Test.YtedlgnoiojcjaaaGreatDoorV08
import Derived.Test.YtedlgnoiojcjaaaGreatDoorV09
import Derived.Test.YtedlgnoiojcjaaaGreatDoorV10
import Derived.Test.YtedlgnoiojcjaaaGreatDoorV11
import Derived.Test.YtedlgnoiojcjaaaGreatDoorV12
import Derived.Test.YtedlgnoiojcjaaaGreatDoorV13
import Derived.Test.YtedlgnoiojcjaaaGreatDoorV14
import Derived.Test.YtedlgnoiojcjaaaGreatDoorV15
import Derived.Test.YtedlgnoiojcjaaaGreatDoorV16
import Derived.Test.YtedlgnoiojcjaaaGreatDoorV17
import Derived.Test.YtedlgnoiojcjaaaGreatDoorV18
import Derived.Test.YtedlgnoiojcjaaaGreatDoorV19
import Derived.Test.YtedlgnoiojcjaaaGreatDoorV20
import Derived.Test.YtedlgnoiojcjaaaGreatDoorV21
import Derived.Test.YtedlgnoiojcjaaaGreatDoorV22
import Derived.Test.YtedlgnoiojcjaaaGreatDoorV23
import Derived.Test.YtedlgnoiojcjaaaGreatDoorV24
import Derived.Test.YtedlgnoiojcjaaaGreatDoorV25
import Derived.Test.YtedlgnoiojcjaaaGreatDoorV26
import Derived.Test.YtedlgnoiojcjaaaGreatDoorV27
import Derived.Test.YtedlgnoiojcjaaaGreatDoorV28
import Derived.Test.YtedlgnoiojcjaaaGreatDoorV29
import Derived.Test.YtedlgnoiojcjaaaGreatDoorV30
import Derived.Test.YtedlgnoiojcjaaaGreatDoorV31
set_option maxRecDepth 100000
namespace Go.Proofs.YtedlgnoiojcjaaaGreatDoor
theorem Tw.mulInt {A K : Nat} {a : Rat} (h : Tw A a) {k : Int} (hk : k.natAbs ≤ K) : Tw (A * K) (a * (k : Rat)) := by
 obtain ⟨m, rfl, h2⟩ := h
 refine ⟨m * k, ?_, ?_⟩
 ·rw [Rat.intCast_mul]; grind
 ·rw [Int.natAbs_mul]; exact Nat.mul_le_mul h2 hk
theorem sumR_tw {f : Nat → Rat} {B : Nat} : ∀ n, (∀ k, k < n → Tw B (f k)) → Tw (n * B) (sumR f n)
 | 0, _ => Tw.zero _
 | n + 1, h => by
  have := (sumR_tw n fun k hk => h k (by omega)).add (h n (by omega))
  rw [Nat.succ_mul]
  exact this
end Go.Proofs.YtedlgnoiojcjaaaGreatDoor
namespace Go.Proofs.YtedlgnoiojcjaaaGreatDoor
open Go.RowKit Go.Sort
def OfPost (w : World) (np : Nat) (M : Mx) (G : List (List Rat)) (x : List Int) (e : Ending) (w' : World) : Prop :=
 Ext w w' ∧ ((tuE np M x ≠ 0 ∧ e = .returned (.tuple #[.slice none 0 0, .int .i64 (tuE np M x)])) ∨ (tuE np M x = 0 ∧ szE (tuL np M G x) ≠ 0 ∧ e = .returned (.tuple #[.slice none 0 0, .int .i64 4])) ∨ (tuE np M x = 0 ∧ szE (tuL np M G x) = 0 ∧ ∃ g, e = .returned (.tuple #[slv g np np, .int .i64 0]) ∧ SzO w.heap.size w' g (tuL np M G x)))
set_option maxHeartbeats 4000000 in
theorem tuOf_any {w : World} {P : List Int} {C M : Mx} {G : List (List Rat)} {sp : Option Addr} {cp : Nat} {sc : Option Addr} {lc cc : Nat} {sm : Option Addr} {lm cm : Nat} {sg : Option Addr} {lg cg : Nat} {sx : Option Addr} {nx cx : Nat} {x : List Int} (h : TuV w P C M G sp cp sc lc cc sm lm cm sg lg cg) (hx : RowR w (.slice sx nx cx) x) (hL : Laid w) :
  Calls Tryz.prog 16 #[tuS P sp cp sc lc cc sm lm cm sg lg cg, .slice sx nx cx] w (OfPost w P.length M G x) := by
 have hte := Lib.hid (fun W (hW : Ext w W) => tempered_any (h.ext hW) (hx.ext hW) (hL.ext hW))
 have hpc := h.tm.pchk
 have hp4 := h.tm.ok.p4
 have hg4 : G.length ≤ 4 := by rw [h.ln]; exact h.tm.m4
 have Hnd := Lib.hid (fun (hs : tuE P.length M x = 0) => tuL_nd (np := P.length) h.sh (tuE_zero hs).2 hg4)
 have Hll := Lib.hid (tuL_length P.length M G x)
 have Hpc := Lib.hid hpc
 have HL := Lib.hid hL
 have hX := (Ext.refl w).alloc (.cells #[.slice sp P.length cp, .slice sc lc cc, .slice sm lm cm, .slice sg lg cg] 44)
 have x0 : (w.alloc (.cells #[.slice sp P.length cp, .slice sc lc cc, .slice sm lm cm, .slice sg lg cg] 44)).cell? ⟨w.heap.size, 0, none⟩ = some (.slice sp P.length cp) := by go_simp
 have x1 : (w.alloc (.cells #[.slice sp P.length cp, .slice sc lc cc, .slice sm lm cm, .slice sg lg cg] 44)).cell? ⟨w.heap.size, 1, none⟩ = some (.slice sc lc cc) := by go_simp
 have x2 : (w.alloc (.cells #[.slice sp P.length cp, .slice sc lc cc, .slice sm lm cm, .slice sg lg cg] 44)).cell? ⟨w.heap.size, 2, none⟩ = some (.slice sm lm cm) := by go_simp
 have x3 : (w.alloc (.cells #[.slice sp P.length cp, .slice sc lc cc, .slice sm lm cm, .slice sg lg cg] 44)).cell? ⟨w.heap.size, 3, none⟩ = some (.slice sg lg cg) := by go_simp
 obtain ⟨l, hl⟩ : ∃ l, l = tuL P.length M G x := ⟨_, rfl⟩
 have Hl := Lib.hid hl
 rw [← hl] at Hnd Hll
 have hwX : w.heap.size ≤ (w.alloc (.cells #[.slice sp P.length cp, .slice sc lc cc, .slice sm lm cm, .slice sg lg cg] 44)).heap.size := by simp
 have Hsz := Lib.hid hwX
 clear h hx hg4 hpc hL hl hwX
 go_enter Tryz.func16, Tryz.ntmps16
 go_wp2_with fail
 refine (hte.out _ hX).mono ?_
 rintro e X1 ⟨hE1, (⟨hy, rfl⟩ | ⟨hy, g, rfl, hg, hO⟩)⟩
 ·have h2 : (tuE P.length M x == 0) = false := beq_eq_false_iff_ne.2 hy
  have h3 : (tuE P.length M x != 0) = true := by simp [bne, h2]
  have Hy := Lib.hid hy
  have Hdef := Lib.hid (fun (e : Ending) W (hE : Ext w W) (h : e = .returned (.tuple #[.slice none 0 0, .int .i64 (tuE P.length M x)])) => show OfPost w P.length M G x e W from ⟨hE, .inl ⟨Hy.out, h⟩⟩)
  generalize tuE P.length M x = y at *
  clear hy Hnd
  go_wp2_with fail
  go_ret2
  exact Hdef.out _ _ (hX.trans hE1) rfl
 ·have e1 := hX.trans hE1
  have HO := Lib.hid hO
  have Hy := Lib.hid hy
  have hnd := Hnd.out hy
  replace x0 := hE1.cell x0
  have hz : ∀ W, Ext X1 W → SzR W (slv g P.length P.length) l := fun W hW => by
   have := (hO.ext hW).val.read
   rw [← Hl.out] at this
   rwa [Hll.out] at this
  by_cases h0 : szE l = 0
  ·have hrs := Lib.hid (tuResult_yes (pa := sp) (cp := cp) h0 (fun W hW => Hpc.out W (e1.trans hW)) (hz _ (Ext.refl _)) Hll.out (fun r hr => (hnd r hr).mono (by omega)) (by omega) (HL.out.ext e1))
   have H0 := Lib.hid h0
   clear h0 hz hnd hO hy hte Hnd hg
   go_wp2_with fail
   refine hrs.out.mono ?_
   rintro e X2 ⟨rfl, hE2⟩
   go_wp2_with fail
   go_ret2
   exact ⟨e1.trans hE2, .inr (.inr ⟨Hy.out, by rw [← Hl.out]; exact H0.out, g, rfl, (HO.out.ext hE2).mono Hsz.out⟩)⟩
  ·have hrs := Lib.hid (tuResult_no (pa := sp) (cp := cp) h0 (fun W hW => Hpc.out W (e1.trans hW)) (hz _ (Ext.refl _)) Hll.out (fun r hr => (hnd r hr).mono (by omega)) (by omega) (HL.out.ext e1))
   have H0 := Lib.hid h0
   clear h0 hz hnd hO hy hte Hnd hg
   go_wp2_with fail
   refine hrs.out.mono ?_
   rintro e X2 ⟨rfl, hE2⟩
   go_wp2_with fail
   go_ret2
   exact ⟨e1.trans hE2, .inr (.inl ⟨Hy.out, by rw [← Hl.out]; exact H0.out, rfl⟩)⟩
def subTo (l f : List Rat) (i : Nat) : List Rat := (List.range l.length).map fun c => l.getD c 0 - (if c < i then f.getD c 0 else 0)
@[simp] theorem subTo_length (l f : List Rat) (i : Nat) : (subTo l f i).length = l.length := by simp [subTo]
theorem subTo_get {l f : List Rat} {i c : Nat} (h : c < (subTo l f i).length) : (subTo l f i)[c] = l.getD c 0 - (if c < i then f.getD c 0 else 0) := by simp [subTo]
theorem ratD_get {l : List Rat} {i : Nat} (h : i < l.length) : l.getD i 0 = l[i] := by rw [List.getD_eq_getElem?_getD, List.getElem?_eq_getElem h]; rfl
theorem subTo_zero (l f : List Rat) : subTo l f 0 = l := by
 refine List.ext_getElem (by simp) fun c h1 h2 => ?_
 rw [subTo_get, if_neg (by omega), ratD_get h2]; grind
theorem subTo_step {l f : List Rat} {i : Nat} (_ : i < l.length) : (subTo l f i).set i (l.getD i 0 - f.getD i 0) = subTo l f (i + 1) := by
 refine List.ext_getElem (by simp) fun c h1 h2 => ?_
 rw [List.getElem_set]
 by_cases e : i = c
 ·subst e
  rw [if_pos rfl, subTo_get, if_pos (by omega)]
 ·rw [if_neg e, subTo_get, subTo_get]
  by_cases h : c < i
  ·rw [if_pos h, if_pos (by omega)]
  ·rw [if_neg h, if_neg (by omega)]
theorem subTo_at {l f : List Rat} {i : Nat} (h : i < (subTo l f i).length) : (subTo l f i)[i] = l.getD i 0 := by
 rw [subTo_get, if_neg (by omega)]; grind
def erL (np : Nat) (M : Mx) (G : List (List Rat)) (x : List Int) : List Rat := subTo (tuL np M G x) (nbL x) np
@[simp] theorem erL_length (np : Nat) (M : Mx) (G : List (List Rat)) (x : List Int) : (erL np M G x).length = np := by simp [erL]
theorem mz_nd {x : List Int} (hx : ∀ z ∈ x, -1000 ≤ z ∧ z ≤ 1000) (c : Nat) : NdQ 4 ((nbL x).getD c 0) := by
 rw [List.getD_eq_getElem?_getD]
 by_cases h : c < (nbL x).length
 ·rw [List.getElem?_eq_getElem h, Option.getD_some]
  obtain ⟨z, hz, e⟩ := List.mem_map.1 (List.getElem_mem h)
  show NdQ 4 (nbL x)[c]
  rw [show (nbL x)[c] = (z : Rat) from e.symm]
  refine NdQ.of_int ?_
  have := hx z hz
  exact nDigits_le (u := z.natAbs) (k := 4) (by omega) (by omega)
 ·rw [List.getElem?_eq_none (by omega)]; exact NdQ.zero (by omega)
theorem tuL_ndD {np : Nat} {M : Mx} {G : List (List Rat)} {x : List Int} (h : ∀ r ∈ tuL np M G x, NdQ 200 r) (c : Nat) : NdQ 200 ((tuL np M G x).getD c 0) := by
 rw [List.getD_eq_getElem?_getD]
 by_cases h2 : c < (tuL np M G x).length
 ·rw [List.getElem?_eq_getElem h2, Option.getD_some]; exact h _ (List.getElem_mem h2)
 ·rw [List.getElem?_eq_none (by omega)]; exact NdQ.zero (by omega)
theorem erL_nd {np : Nat} {M : Mx} {G : List (List Rat)} {x : List Int} (h : ∀ r ∈ tuL np M G x, NdQ 200 r) (hx : ∀ z ∈ x, -1000 ≤ z ∧ z ≤ 1000) : ∀ r ∈ erL np M G x, NdQ 400 r := fun r hr => by
 unfold erL subTo at hr
 obtain ⟨c, _, rfl⟩ := List.mem_map.1 hr
 refine ((tuL_ndD h c).sub (F := 4) ?_).mono (by omega)
 split
 ·exact mz_nd hx c
 ·exact NdQ.zero (by omega)
def ErPost (w : World) (np : Nat) (M : Mx) (G : List (List Rat)) (x : List Int) (e : Ending) (w' : World) : Prop :=
 Ext w w' ∧ ((tuE np M x ≠ 0 ∧ e = .returned (.tuple #[.slice none 0 0, .int .i64 (tuE np M x)])) ∨ (tuE np M x = 0 ∧ szE (erL np M G x) ≠ 0 ∧ e = .returned (.tuple #[.slice none 0 0, .int .i64 4])) ∨ (tuE np M x = 0 ∧ szE (erL np M G x) = 0 ∧ ∃ g, e = .returned (.tuple #[slv g np np, .int .i64 0]) ∧ SzO w.heap.size w' g (erL np M G x)))
set_option maxHeartbeats 4000000 in
theorem tuError_any {w : World} {P : List Int} {C M : Mx} {G : List (List Rat)} {sp : Option Addr} {cp : Nat} {sc : Option Addr} {lc cc : Nat} {sm : Option Addr} {lm cm : Nat} {sg : Option Addr} {lg cg : Nat} {sx : Option Addr} {nx cx : Nat} {x : List Int} (h : TuV w P C M G sp cp sc lc cc sm lm cm sg lg cg) (hx : RowR w (.slice sx nx cx) x) (hL : Laid w) :
  Calls Tryz.prog 38 #[tuS P sp cp sc lc cc sm lm cm sg lg cg, .slice sx nx cx] w (ErPost w P.length M G x) := by
 have hte := Lib.hid (fun W (hW : Ext w W) => tempered_any (h.ext hW) (hx.ext hW) (hL.ext hW))
 have hpc := h.tm.pchk
 have hp4 := h.tm.ok.p4
 have hg4 : G.length ≤ 4 := by rw [h.ln]; exact h.tm.m4
 have Hnd := Lib.hid (fun (hs : tuE P.length M x = 0) => tuL_nd (np := P.length) h.sh (tuE_zero hs).2 hg4)
 have Hmz := Lib.hid (fun (hs : tuE P.length M x = 0) => mzE_zero (tuE_zero hs).1)
 have Hnum := Lib.hid (fun W (hW : Ext w W) (hs : tuE P.length M x = 0) => numbers_any (w := W) (v := .slice sx nx cx) (hx.ext hW) (by rw [(mzE_zero (tuE_zero hs).1).1]; omega) (fun z hz => by have := (mzE_zero (tuE_zero hs).1).2 z hz; unfold I64; omega) (hL.ext hW))
 have Hpc := Lib.hid hpc
 have HL := Lib.hid hL
 have hX := (Ext.refl w).alloc (.cells #[.slice sp P.length cp, .slice sc lc cc, .slice sm lm cm, .slice sg lg cg] 44)
 have x0 : (w.alloc (.cells #[.slice sp P.length cp, .slice sc lc cc, .slice sm lm cm, .slice sg lg cg] 44)).cell? ⟨w.heap.size, 0, none⟩ = some (.slice sp P.length cp) := by go_simp
 have x1 : (w.alloc (.cells #[.slice sp P.length cp, .slice sc lc cc, .slice sm lm cm, .slice sg lg cg] 44)).cell? ⟨w.heap.size, 1, none⟩ = some (.slice sc lc cc) := by go_simp
 have x2 : (w.alloc (.cells #[.slice sp P.length cp, .slice sc lc cc, .slice sm lm cm, .slice sg lg cg] 44)).cell? ⟨w.heap.size, 2, none⟩ = some (.slice sm lm cm) := by go_simp
 have x3 : (w.alloc (.cells #[.slice sp P.length cp, .slice sc lc cc, .slice sm lm cm, .slice sg lg cg] 44)).cell? ⟨w.heap.size, 3, none⟩ = some (.slice sg lg cg) := by go_simp
 have hwX : w.heap.size + 1 = (w.alloc (.cells #[.slice sp P.length cp, .slice sc lc cc, .slice sm lm cm, .slice sg lg cg] 44)).heap.size := by simp
 have Hsz := Lib.hid hwX
 clear h hx hg4 hpc hL hwX
 go_enter Tryz.func38, Tryz.ntmps38
 go_wp2_with fail
 refine (hte.out _ hX).mono ?_
 rintro e X1 ⟨hE1, (⟨hy, rfl⟩ | ⟨hy, g, rfl, hg, hO⟩)⟩
 ·have h2 : (tuE P.length M x == 0) = false := beq_eq_false_iff_ne.2 hy
  have h3 : (tuE P.length M x != 0) = true := by simp [bne, h2]
  have Hy := Lib.hid hy
  have Hdef := Lib.hid (fun (e : Ending) W (hE : Ext w W) (h : e = .returned (.tuple #[.slice none 0 0, .int .i64 (tuE P.length M x)])) => show ErPost w P.length M G x e W from ⟨hE, .inl ⟨Hy.out, h⟩⟩)
  generalize tuE P.length M x = y at *
  clear hy Hnd Hmz Hnum
  go_wp2_with fail
  go_ret2
  exact Hdef.out _ _ (hX.trans hE1) rfl
 ·have e1 := hX.trans hE1
  have HO := Lib.hid hO
  have Hy := Lib.hid hy
  have Hnd := Lib.hid (Hnd.out hy)
  have Hmz := Lib.hid (Hmz.out hy)
  have hnum := Lib.hid (Hnum.out X1 e1 hy)
  replace x0 := hE1.cell x0
  have Hgw := Lib.hid (show w.heap.size + 1 ≤ g by rw [Hsz.out]; exact hg)
  have Hgl := Lib.hid (OwnV.lt hO).2
  have Hln := Lib.hid (show (nbL x).length = P.length by rw [nbL_length]; exact Hmz.out.1)
  obtain ⟨l, hl⟩ : ∃ l, l = tuL P.length M G x := ⟨_, rfl⟩
  rw [← hl] at HO Hnd
  have Hll := Lib.hid (show l.length = P.length by rw [hl]; simp)
  obtain ⟨f, hf⟩ : ∃ f, f = nbL x := ⟨_, rfl⟩
  rw [← hf] at hnum Hln
  have Hsl := Lib.hid (fun c => show NdQ 200 (l.getD c 0) by rw [hl]; exact tuL_ndD (by rw [← hl]; exact Hnd.out) c)
  have Hsf := Lib.hid (fun c => show NdQ 4 (f.getD c 0) by rw [hf]; exact mz_nd Hmz.out.2 c)
  have Her := Lib.hid (show erL P.length M G x = subTo l f P.length by unfold erL; rw [hl, hf])
  have Hend := Lib.hid (erL_nd (np := P.length) (M := M) (G := G) (x := x) (by rw [← hl]; exact Hnd.out) Hmz.out.2)
  clear hO hy hte hg hE1 Hnum hl hf
  go_wp2_with fail
  refine hnum.out.mono ?_
  rintro e X2 ⟨⟨u, rfl, hu⟩, hE2⟩
  replace x0 := hE2.cell x0
  have e2 := e1.trans hE2
  replace HO := Lib.hid (HO.out.ext hE2)
  have Hu := Lib.hid hu
  obtain ⟨ua, ul, uc, rfl⟩ := hu.slice
  have hul : ul = P.length := by
   have := hu.read
   obtain ⟨_, _, _, _, e, _⟩ := this
   injection e with e4 e5 e6
   rw [e5, Hln.out]
  subst hul
  have hEB := Lib.hid (Below.refl g X2)
  have Hg2 := Lib.hid (show g ≤ X2.heap.size by have := hE2.size; have := Hgl.out; omega)
  clear hnum hE2 e1 hu
  go_wp2_with fail
  go_loopw [22] (fun iv wr => ∃ i : Nat, i ≤ P.length ∧ iv = .int .i64 i ∧ Hid (SzO (w.heap.size + 1) wr g (subTo l f i)) ∧ Hid (SzV X1.heap.size wr (.slice ua P.length uc) f) ∧ Hid (Below g X2 wr)) (fun iv _ => P.length - (intOf iv).toNat)
  case atStart => exact ⟨0, by omega, by go_num, Lib.hid (by rw [subTo_zero]; exact HO.out.mono (by rw [Hsz.out]; exact Nat.le_refl _)), Hu, hEB⟩
  case round =>
   obtain ⟨i, hi, rfl, HO, Hu, HB⟩ := hrel
   generalize wr = X at *
   have e0 := Lib.hid (show Ext w X from Below.trans e2 (HB.out.mono (by have := Hgw.out; have := e2.size; omega)))
   by_cases hlt : i < P.length
   ·have hii : (i : Int) < (P.length : Int) := by omega
    obtain ⟨ua', gb, uo', uc', eu, _, hua, hcu⟩ := Hu.out.read
    injection eu with eu1 eu2 eu3
    subst eu1
    obtain rfl := hua (by rw [Hln.out]; omega)
    obtain ⟨u0, u1⟩ := hcu i (by rw [Hln.out]; exact hlt)
    rw [← ratD_get (show i < f.length by rw [Hln.out]; exact hlt)] at u0 u1
    have hil : i < (subTo l f i).length := by rw [subTo_length, Hll.out]; exact hlt
    obtain ⟨t0, t1⟩ := HO.out.cells hil
    rw [subTo_at hil] at t0 t1
    have Hst := Lib.hid (subTo_step (f := f) (show i < l.length by rw [Hll.out]; exact hlt))
    have Hil := Lib.hid hil
    have hsb := Lib.hid (fun W (hW : Ext X W) => ratSub_any (a := l.getD i 0) (b := f.getD i 0) ((Hsl.out i).smQ (by omega)) ((Hsf.out i).smQ (by omega)) (HL.out.ext (e0.out.trans hW)))
    obtain ⟨t, ht⟩ : ∃ t, t = l.getD i 0 := ⟨_, rfl⟩
    obtain ⟨s, hs⟩ : ∃ s, s = f.getD i 0 := ⟨_, rfl⟩
    rw [← ht] at t0 t1 Hst hsb
    rw [← hs] at u0 u1 Hst hsb
    have dA := (Ext.refl X).alloc (.cells #[I s.num, I s.den] 63)
    have hOn := two_alloc X 63 (I s.num) (I s.den)
    have z0 := hOn.cell (j := 0) (by simp)
    have z1 := hOn.cell (j := 1) (by simp)
    simp only [List.getElem_cons_zero, List.getElem_cons_succ] at z0 z1
    clear hil hlt ht hs hcu hua eu2 eu3 hOn
    obtain ⟨bn, hbn⟩ : ∃ bn, bn = X.heap.size := ⟨_, rfl⟩
    rw [← hbn] at z0 z1
    have Hbn := Lib.hid hbn
    clear hbn
    go_wp2_with fail
    rw [← Hbn.out]
    generalize X.alloc (.cells #[I s.num, I s.den] 63) = XA at *
    replace t0 := dA.cell t0
    replace t1 := dA.cell t1
    have d0 : Ext XA XA.drew := (Ext.refl XA).drew
    refine wp_region_held_tail (S := fun W => Ext XA W) 8 (by kernel_rfl) (by simp) ?_
    intro inv
    generalize XA.drew = XB at *
    refine wpAnyLH_take (i := 0) (v := slv g P.length P.length) rfl (by kernel_rfl) (fun _ _ _ h => h) (.inl ⟨by rfl, fun W hW => by go_simp⟩) d0 inv ?_
    intro inv
    go_simp
    refine wpAnyLH_take (i := 1) (v := .int .i64 i) rfl (by kernel_rfl) (fun _ _ _ h => h) (.inl ⟨by rfl, fun W hW => by go_simp⟩) d0 inv ?_
    intro inv
    go_simp
    refine wpAnyLH_take (i := 2) (v := slv g P.length P.length) rfl (by kernel_rfl) (fun _ _ _ h => h) (.inl ⟨by rfl, fun W hW => by go_simp⟩) d0 inv ?_
    intro inv
    go_simp
    refine wpAnyLH_take (i := 3) (v := .int .i64 i) rfl (by kernel_rfl) (fun _ _ _ h => h) (.inl ⟨by rfl, fun W hW => by go_simp⟩) d0 inv ?_
    intro inv
    go_simp
    refine wpAnyLH_take (i := 4) (v := .pointer (some ⟨g, i * 2, none⟩)) rfl (by kernel_rfl) (fun _ _ _ h => h) (.inl ⟨by rfl, fun W hW => by go_simp⟩) d0 inv ?_
    intro inv
    go_simp
    refine wpAnyLH_take (i := 5) (v := RV t) rfl (by kernel_rfl) (fun _ _ _ h => h) (.inl ⟨by rfl, fun W hW => by have y0 := hW.cell t0; have y1 := hW.cell t1; go_simp⟩) d0 inv ?_
    intro inv
    go_simp
    refine wpAnyLH_take (i := 6) (v := RV s) rfl (by kernel_rfl) (fun _ _ _ h => h) (.inl ⟨by rfl, fun W hW => by have y0 := hW.cell z0; have y1 := hW.cell z1; go_simp⟩) d0 inv ?_
    intro inv
    go_simp
    refine wpAnyLH_oneI (i := 7) rfl (by kernel_rfl) inv (fun inv K0 hK0 => ?_)
    go_simp
    refine (hsb.out _ (dA.trans d0)).mono ?_
    rintro e XC ⟨rfl, hG1⟩
    have d1 := d0.trans hG1
    refine hK0 _ _ d1 ?_
    clear hK0
    refine wpAnyLH_end (by kernel_rfl) ?_
    have eC := dA.trans d1
    obtain ⟨⟨ca, cb, y0, y1⟩, f0', f1', HO9, hB9, hG9⟩ := SzO.stepB (HB.out.trans (Below.mono eC (by have := HB.out.size; have := Hg2.out; omega))) Hg2.out (Nat.le_refl g) (HO.out.ext eC) Hil.out (t - s)
    rw [Hst.out] at HO9
    have Hu9 := Lib.hid ((Hu.out.ext eC).kept hG9.out Hgl.out)
    clear hsb inv d0 d1 hG1 t0 t1 z0 z1 u0 u1 HO Hu HB eC dA
    go_wp2_with fail
    go_roundw
    case rel => exact ⟨i + 1, by omega, by go_num, HO9, Hu9, hB9⟩
    case measure => simp [intOf] <;> omega
   ·obtain rfl : i = P.length := by omega
    have hii : ¬ (P.length : Int) < (P.length : Int) := by omega
    have y0 : X.cell? ⟨w.heap.size, 0, none⟩ = some (.slice sp P.length cp) := by rw [Below.cell HB.out (show w.heap.size < g by have := Hgw.out; omega)]; exact x0
    have HO := Lib.hid (show SzO (w.heap.size + 1) X g (erL P.length M G x) by rw [Her.out]; exact HO.out)
    have hz : SzR X (slv g P.length P.length) (erL P.length M G x) := by
     have := HO.out.val.read
     rwa [erL_length] at this
    clear x0 hlt
    by_cases h0 : szE (erL P.length M G x) = 0
    ·have hrs := Lib.hid (tuResult_yes (pa := sp) (cp := cp) h0 (fun W hW => Hpc.out W (e0.out.trans hW)) hz (erL_length _ _ _ _) Hend.out (by omega) (HL.out.ext e0.out))
     have H0 := Lib.hid h0
     clear h0 hz
     go_wp2_with fail
     refine hrs.out.mono ?_
     rintro e X9 ⟨rfl, hE9⟩
     go_wp2_with fail
     go_ret2
     exact ⟨e0.out.trans hE9, .inr (.inr ⟨Hy.out, H0.out, g, rfl, (HO.out.ext hE9).mono (by omega)⟩)⟩
    ·have hrs := Lib.hid (tuResult_no (pa := sp) (cp := cp) h0 (fun W hW => Hpc.out W (e0.out.trans hW)) hz (erL_length _ _ _ _) Hend.out (by omega) (HL.out.ext e0.out))
     have H0 := Lib.hid h0
     clear h0 hz
     go_wp2_with fail
     refine hrs.out.mono ?_
     rintro e X9 ⟨rfl, hE9⟩
     go_wp2_with fail
     go_ret2
     exact ⟨e0.out.trans hE9, .inr (.inl ⟨Hy.out, H0.out, rfl⟩)⟩
theorem cmbF_tw {G : List (List Rat)} {x : List Int} {c k A K : Nat} (hG : ∀ l ∈ G, ∀ r ∈ l, Tw A r) (hx : ∀ z ∈ x, z.natAbs ≤ K) : Tw (A * K) (cmbF G (nbL x) c k) := by
 unfold cmbF
 have h1 : Tw A ((G.getD k []).getD c 0) := by
  rw [List.getD_eq_getElem?_getD, List.getD_eq_getElem?_getD]
  by_cases h : k < G.length
  ·rw [List.getElem?_eq_getElem h, Option.getD_some]
   by_cases h2 : c < G[k].length
   ·rw [List.getElem?_eq_getElem h2, Option.getD_some]; exact hG _ (List.getElem_mem h) _ (List.getElem_mem h2)
   ·rw [List.getElem?_eq_none (by omega)]; exact Tw.zero _
  ·rw [List.getElem?_eq_none (show G.length ≤ k by omega), Option.getD_none, List.getElem?_nil]; exact Tw.zero _
 have h2 : ∃ z : Int, (nbL x).getD k 0 = (z : Rat) ∧ z.natAbs ≤ K := by
  rw [List.getD_eq_getElem?_getD]
  by_cases h : k < x.length
  ·have hk : k < (nbL x).length := by rw [nbL_length]; exact h
   refine ⟨x[k], ?_, hx _ (List.getElem_mem h)⟩
   rw [List.getElem?_eq_getElem hk, Option.getD_some]
   simp [nbL]
  ·rw [List.getElem?_eq_none (by rw [nbL_length]; omega)]
   exact ⟨0, rfl, by simp⟩
 obtain ⟨z, e, hz⟩ := h2
 rw [e]
 exact h1.mulInt hz
theorem cmbQ_tw {G : List (List Rat)} {x : List Int} {n A K : Nat} (hG : ∀ l ∈ G, ∀ r ∈ l, Tw A r) (hx : ∀ z ∈ x, z.natAbs ≤ K) : ∀ r ∈ cmbQ G (nbL x) n, Tw (G.length * (A * K)) r := fun r hr => by
 unfold cmbQ at hr
 obtain ⟨c, _, rfl⟩ := List.mem_map.1 hr
 exact sumR_tw _ fun k _ => cmbF_tw hG hx
theorem Tw.neg {A : Nat} {a : Rat} (h : Tw A a) : Tw A (-a) := by
 obtain ⟨m, rfl, h2⟩ := h
 refine ⟨-m, ?_, by omega⟩
 rw [Rat.intCast_neg]; grind
theorem Tw.sub {A B : Nat} {a b : Rat} (h : Tw A a) (k : Tw B b) : Tw (A + B) (a - b) := by
 rw [show a - b = a + -b by grind]; exact h.add k.neg
theorem Tw.int {K : Nat} {z : Int} (h : z.natAbs ≤ K) : Tw (12 * K) (z : Rat) := by
 refine ⟨z * 12, ?_, by omega⟩
 rw [Rat.intCast_mul]
 have : ((12 : Int) : Rat) = 12 := rfl
 grind
theorem tuL_tw {A B : Nat → Nat → Int} {np k : Nat} {M : Mx} {x : List Int} (hs : smallB (tmpL M x) = true) : ∀ r ∈ tuL np M (mkG A B np k) x, Tw (k * (480 * 1000000000)) r := fun r hr => by
 have := cmbQ_tw (G := mkG A B np k) (x := tmpL M x) (n := np) (A := 480) (K := 1000000000) (fun l hl => (mkG_tw l hl).2) (fun z hz => by have := smallB_iff.1 hs z hz; omega) r hr
 rwa [mkG_length] at this
theorem big30 : (10 : Nat) ^ 30 = 1000000000000000000000000000000 := by decide
theorem tuL_sz {A B : Nat → Nat → Int} {np k : Nat} {M : Mx} {x : List Int} (hk : k ≤ 4) (h : tuE np M x = 0) : szE (tuL np M (mkG A B np k) x) = 0 := by
 refine szE_sh fun r hr => (tuL_tw (tuE_zero h).2 r hr).sm ?_
 have h1 : k * (480 * 1000000000) ≤ 4 * (480 * 1000000000) := Nat.mul_le_mul_right _ hk
 have := big30
 omega
theorem of_no {w w' : World} {np : Nat} {M : Mx} {G : List (List Rat)} {x : List Int} {e : Ending} (h : OfPost w np M G x e w') (h0 : tuE np M x ≠ 0) : e = .returned (.tuple #[.slice none 0 0, .int .i64 (tuE np M x)]) ∧ Ext w w' := by
 obtain ⟨h1, ⟨_, h2⟩ | ⟨h2, _⟩ | ⟨h2, _⟩⟩ := h
 ·exact ⟨h2, h1⟩
 ·exact absurd h2 h0
 ·exact absurd h2 h0
theorem of_yes {w w' : World} {np : Nat} {M : Mx} {G : List (List Rat)} {x : List Int} {e : Ending} (h : OfPost w np M G x e w') (h0 : tuE np M x = 0) (hs : szE (tuL np M G x) = 0) : (∃ g, e = .returned (.tuple #[slv g np np, .int .i64 0]) ∧ SzO w.heap.size w' g (tuL np M G x)) ∧ Ext w w' := by
 obtain ⟨h1, ⟨h2, _⟩ | ⟨_, h2, _⟩ | ⟨_, _, h2⟩⟩ := h
 ·exact absurd h0 h2
 ·exact absurd hs h2
 ·exact ⟨h2, h1⟩
def emQ : Value × Value := (.string ⟨#[]⟩, .string ⟨#[]⟩)
def c24 (L : List (List Rat)) (fs : List Rat) (np c : Nat) (o : Value × Value) : List (Value × Value) := (List.range np).map fun t => if t < c then qv (qR (sumR (cmbF L fs t) L.length)) else if t = c then o else emQ
@[simp] theorem c24_length (L : List (List Rat)) (fs : List Rat) (np c : Nat) (o : Value × Value) : (c24 L fs np c o).length = np := by simp [c24]
theorem FrV.own {B g : Nat} {w : World} {l : List Rat} (h : FrV B w g (l.map fun r => qv (qR r))) : SzO B w g l := by
 unfold FrV at h
 rw [List.length_map] at h; exact h
theorem FrV.stepE {B g i : Nat} {w W : World} {l : List (Value × Value)} (hE : Ext w W) (hg : w.heap.size ≤ g) (h : FrV B W g l) {p : Value × Value} (hi : l[i]? = some p) (x y : Value) :
  W.cell? ⟨g, i * 2, none⟩ = some p.1 ∧ W.cell? ⟨g, i * 2 + 1, none⟩ = some p.2 ∧ W.frozen? ⟨g, i * 2, none⟩ = false ∧ W.frozen? ⟨g, i * 2 + 1, none⟩ = false ∧
   Hid (FrV B ((W.setCell ⟨g, i * 2, none⟩ x).setCell ⟨g, i * 2 + 1, none⟩ y) g (l.set i (x, y))) ∧
   Hid (Ext w ((W.setCell ⟨g, i * 2, none⟩ x).setCell ⟨g, i * 2 + 1, none⟩ y)) := by
 obtain ⟨c0, c1⟩ := h.cells hi
 obtain ⟨h1, g1, f0, f1⟩ := h.set i (x, y)
 exact ⟨c0, c1, f0, f1, Lib.hid h1, Lib.hid (ext_trans_grown hE g1 hg)⟩
def frT (r : Rat) : List UInt8 := if r.den = 1 then Lib.itoa r.num else Lib.itoa r.num ++ 47 :: Lib.itoa r.den
theorem ba_app (a b : List UInt8) : (⟨a.toArray⟩ : ByteArray) ++ ⟨b.toArray⟩ = ⟨(a ++ b).toArray⟩ := ByteArray.ext (by simp)
theorem itoa_len (z : Int) : (Lib.itoa z).length ≤ nd z + 1 := by
 rcases Int.lt_or_le z 0 with h | h
 ·rw [itoa_neg h, List.length_cons, Lib.decDigits_length]; exact Nat.le_refl _
 ·rw [itoa_pos h, Lib.decDigits_length]; exact Nat.le_succ _
theorem fText_any {r : Rat} (hr : nd r.num ≤ 1000 ∧ nd r.den ≤ 1000) (w : World) : Calls Tryz.prog 152 #[RV r] w fun e w' => e = .returned (S (frT r)) ∧ Ext w w' := by
 show Calls Tryz.prog 152 #[.agg #[I r.num, I r.den]] w _
 have hX := (Ext.refl w).alloc (.cells #[I r.num, I r.den] 63)
 have l1 := itoa_len r.num
 have l2 := itoa_len r.den
 have h1 := itoa_eq_1 (r.den : Int)
 have hft : frT r = if r.den = 1 then Lib.itoa r.num else Lib.itoa r.num ++ 47 :: Lib.itoa r.den := rfl
 by_cases hd : r.den = 1
 ·rw [if_pos hd] at hft
  rw [decide_eq_true (show (r.den : Int) = 1 by omega)] at h1
  rw [hft]
  unfold I S at *
  generalize Lib.itoa r.num = ln at *
  generalize Lib.itoa r.den = ld at *
  clear hd hft
  go_enter Tryz.func152, Tryz.ntmps152
  go_wp2_with fail
  go_ret
  exact ⟨rfl, hX⟩
 ·rw [if_neg hd] at hft
  rw [decide_eq_false (show ¬ (r.den : Int) = 1 by omega)] at h1
  rw [hft]
  unfold I S at *
  generalize Lib.itoa r.num = ln at *
  generalize Lib.itoa r.den = ld at *
  have l3 : ln.length ≤ 1001 := by omega
  have l4 : ld.length ≤ 1001 := by omega
  clear hd hft l1 l2 hr
  go_enter Tryz.func152, Tryz.ntmps152
  go_wp2_with fail
  go_ret
  exact ⟨ret_val (congrArg Value.string (by
   show (⟨ln.toArray⟩ : ByteArray) ++ ⟨[47].toArray⟩ ++ ⟨ld.toArray⟩ = _
   rw [ba_app, ba_app, List.append_assoc]; rfl)), hX⟩
theorem number13_any {n : Int} (hn : -9223372036854775808 ≤ n ∧ n ≤ 9223372036854775807) {w : World} (hL : Laid w) :
  Calls Tryz.prog 67 #[.int .i64 n] w fun e w' => e = .returned (RV (n : Rat)) ∧ Ext w w' := by
 have ho := Lib.hid (fun W (hW : Ext w W) => wholeOf_any hn.1 hn.2 (hL.ext hW))
 have hN := two_alloc w 63 (.string ⟨#[]⟩) (.string ⟨#[]⟩)
 have hX : Ext w (w.alloc (.cells #[.string ⟨#[]⟩, .string ⟨#[]⟩] 63)) := (Ext.refl w).alloc _
 have hv : RV (n : Rat) = .agg #[I n, .string ⟨#[49]⟩] := by
  show Value.agg #[I ((n : Rat)).num, I (((n : Rat)).den : Int)] = _
  rw [show ((n : Rat)).num = n by simp, show ((((n : Rat)).den : Nat) : Int) = 1 by simp]
  unfold I S; rw [itoa_one]
 rw [hv]
 clear hL hn hv
 go_enter Tryz.func67, Tryz.ntmps67
 go_wp2_with fail
 refine (ho.out _ hX).mono ?_
 rintro e W ⟨rfl, hE⟩
 have e1 := hX.trans hE
 obtain ⟨y0, y1, f0, f1, r0, r1, hF9⟩ := two_end e1 (Nat.le_refl _) (hN.ext hE) (I n) (.string ⟨#[49]⟩)
 clear hN hX hE e1
 go_wp2_with fail
 refine bodyPost_ret (v := .agg #[I n, .string ⟨#[49]⟩]) (by simp [results, Tryz.results67, go_sem, r0, r1]) rfl ⟨rfl, hF9.out⟩
def zr0 (np c : Nat) : List (Value × Value) := (List.range np).map fun t => if t < c then qv (qR 0) else emQ
@[simp] theorem zr0_length (np c : Nat) : (zr0 np c).length = np := by simp [zr0]
theorem zr0_get {np c t : Nat} (h : t < (zr0 np c).length) : (zr0 np c)[t] = if t < c then qv (qR 0) else emQ := by simp [zr0]
theorem zr0_at {np c : Nat} (h : c < np) : (zr0 np c)[c]? = some emQ := by
 rw [List.getElem?_eq_getElem (by simpa using h), zr0_get, if_neg (by omega)]
theorem zr0_next (np c : Nat) : (zr0 np c).set c (qv (qR 0)) = zr0 np (c + 1) := by
 refine List.ext_getElem (by simp) fun t h1 h2 => ?_
 rw [List.getElem_set]
 by_cases e : c = t
 ·subst e
  rw [if_pos rfl, zr0_get, if_pos (by omega)]
 ·rw [if_neg e, zr0_get, zr0_get]
  by_cases h : t < c
  ·rw [if_pos h, if_pos (by omega)]
  ·rw [if_neg h, if_neg (by omega)]
theorem zr0_start (np : Nat) : zr0 np 0 = List.replicate np emQ := by
 refine List.ext_getElem (by simp) fun t h1 h2 => ?_
 rw [zr0_get, if_neg (by omega), List.getElem_replicate]
theorem zr0_end (np : Nat) : zr0 np np = (List.replicate np (0 : Rat)).map fun r => qv (qR r) := by
 refine List.ext_getElem (by simp) fun t h1 h2 => ?_
 have : t < np := by simpa using h1
 rw [zr0_get, if_pos this, List.getElem_map, List.getElem_replicate]
set_option maxHeartbeats 4000000 in
theorem szzero_any {w : World} {np : Nat} (hn : np ≤ 1000) (hL : Laid w) :
  Calls Tryz.prog 161 #[.int .i64 np] w fun e w' => (∃ g, e = .returned (slv g np np) ∧ w.heap.size ≤ g ∧ SzO w.heap.size w' g (List.replicate np 0)) ∧ Ext w w' := by
 obtain ⟨i0, hi, hz0, hz1, hz2⟩ := info_parts Tryz.infoRat
 have hw0 := Lib.hid (fun W (hW : Ext w W) => number13_any (n := 0) (by omega) (hL.ext hW))
 rw [show (((0 : Int) : Rat)) = (0 : Rat) from rfl] at hw0
 clear hL
 go_enter Tryz.func161, Tryz.ntmps161
 go_wp2_with (at_make; refine wpList_make_full _ rfl _ _ 52 rfl w.heap.size 63 i0 (.agg #[.string ⟨#[]⟩, .string ⟨#[]⟩]) 2 Tryz.underlying52 hi hz0 hz1 .i64 .i64 _ _ np rfl rfl (by omega) (by omega) (by rw [hz2]; omega) (by unfold maxLen; omega) (Nat.le_refl _) ?_; intro w0 hown1 hgrow1)
 have e0 := ext_grown hgrow1
 have HO := Lib.hid (show FrV w.heap.size w0 w.heap.size (zr0 np 0) by
  rw [zr0_start]; exact frv_made hown1 (by omega))
 clear hgrow1 hown1 hi hz0 hz1 hz2
 obtain ⟨g, hg⟩ : ∃ g, g = w.heap.size := ⟨_, rfl⟩
 have Hgw := Lib.hid (show w.heap.size ≤ g by omega)
 rw [← hg] at HO ⊢
 have Hg := Lib.hid hg
 clear hg
 go_loopw [9] (fun cv wr => ∃ c : Nat, c ≤ np ∧ cv = .int .i64 c ∧ Hid (FrV g wr g (zr0 np c)) ∧ Ext w wr) (fun cv _ => np - (intOf cv).toNat)
 case atStart => exact ⟨0, by omega, by go_num, HO, e0⟩
 case round =>
  obtain ⟨c, hc', rfl, HO, hE⟩ := hrel
  generalize wr = Y at *
  by_cases hlt : c < np
  ·have hci : (c : Int) < (np : Int) := by omega
   have hw1 := Lib.hid (hw0.out _ hE)
   have Hat := Lib.hid (zr0_at hlt)
   clear hlt
   go_wp2_with fail
   refine hw1.out.mono ?_
   rintro e Y1 ⟨rfl, hE1⟩
   have e1 := hE.trans hE1
   obtain ⟨z0, z1, f0, f1, HO1, hE2⟩ := FrV.stepE e1 Hgw.out (HO.out.ext hE1) Hat.out (I (0 : Rat).num) (I ((0 : Rat).den : Int))
   rw [show ((I (0 : Rat).num, I ((0 : Rat).den : Int)) : Value × Value) = qv (qR 0) from rfl, zr0_next] at HO1
   unfold emQ at z0 z1
   clear hw1 HO Hat hE1 e1 hE
   go_wp2_with fail
   go_roundw
   case rel => exact ⟨c + 1, by omega, by go_num, HO1, hE2.out⟩
   case measure => simp [intOf] <;> omega
  ·obtain rfl : c = np := by omega
   have hci : ¬ (c : Int) < (c : Int) := by omega
   have HO9 := Lib.hid (show SzO g Y g (List.replicate c 0) by
    have := HO.out; rw [zr0_end] at this; exact this.own)
   clear HO
   go_wp2_with fail
   go_ret
   exact ⟨⟨g, rfl, Hgw.out, HO9.out.mono Hgw.out⟩, hE⟩
set_option maxHeartbeats 4000000 in
theorem szsum_any {w : World} {np : Nat} {v fv : Value} {L : List (List Rat)} {fs : List Rat} (hG : GnR w v L) (hf : SzR w fv fs) (hc : ∀ l ∈ L, l.length = np) (hfl : L.length ≤ fs.length) (hE : ∀ l ∈ L, ∀ r ∈ l, NdQ 1000 r) (hF : ∀ r ∈ fs, NdQ 1000 r) (hn : np ≤ 1000) (hk : L.length ≤ 1000) (hL : Laid w) :
  Calls Tryz.prog 115 #[.int .i64 np, v, fv] w fun e w' => (∃ g, e = .returned (slv g np np) ∧ w.heap.size ≤ g ∧ SzO w.heap.size w' g (cmbQ L fs np)) ∧ Ext w w' := by
 obtain ⟨sa, gb, go, cap, vs, rfl, hcap, hvl, hS, hr⟩ := hG
 obtain ⟨fa, fb, fo, fcap, rfl, hfc, hfa, hfr⟩ := hf
 have HS := Lib.hid hS
 have Hr := Lib.hid hr
 have Hv := Lib.hid hvl
 have Hc := Lib.hid hc
 have Hfa := Lib.hid hfa
 have Hfr := Lib.hid hfr
 have HL := Lib.hid hL
 have Hnd := Lib.hid (fun c k => cmbF_nd (c := c) (k := k) hE hF (by omega) (by omega))
 have Hsum := Lib.hid (fun c k (h : k ≤ 1000) => (sumR_nd k (fun t _ => cmbF_nd (c := c) (k := t) hE hF (by omega) (by omega))).smQ (by have : k * (1000 + 1000 + 1) ≤ 1000 * (1000 + 1000 + 1) := Nat.mul_le_mul_right _ h; omega))
 have Hss := Lib.hid (fun k i (h : k < L.length) (h2 : i < L[k].length) s (hs : s = L[k][i]) => show SmQ s by rw [hs]; exact (hE _ (List.getElem_mem h) _ (List.getElem_mem h2)).smQ (by omega))
 have Hpp := Lib.hid (fun k (h : k < fs.length) s (hs : fs[k] = s) => show SmQ s by rw [← hs]; exact (hF _ (List.getElem_mem h)).smQ (by omega))
 have hzr := Lib.hid (szzero_any (w := w) (np := np) hn hL)
 obtain ⟨m, hm⟩ : ∃ m, m = L.length := ⟨_, rfl⟩
 obtain ⟨q, hq⟩ : ∃ q, q = fs.length := ⟨_, rfl⟩
 rw [← hm] at hcap hfl hk ⊢
 rw [← hq] at hfc hfl ⊢
 have Hm := Lib.hid hm
 have Hq := Lib.hid hq
 clear hS hr hvl hc hfa hfr hL hE hF hm hq
 go_enter Tryz.func115, Tryz.ntmps115
 go_wp2_with fail
 refine hzr.out.mono ?_
 rintro e w0 ⟨⟨g, rfl, hgw, hO⟩, e0⟩
 have HO := Lib.hid (show SzO w.heap.size w0 g (cmbTo L fs np 0 0) by
  rw [cmbTo_zero]; exact hO)
 have Hgw := Lib.hid hgw
 clear hzr hO hgw
 go_wp2_with fail
 go_loopw [16] (fun kv wr => ∃ k : Nat, k ≤ m ∧ kv = .int .i64 k ∧ Hid (SzO w.heap.size wr g (cmbTo L fs np k 0)) ∧ Ext w wr) (fun kv _ => m - (intOf kv).toNat)
 case atStart => exact ⟨0, by omega, by go_num, HO, e0⟩
 case round =>
  obtain ⟨k, hk', rfl, HO, hE⟩ := hrel
  generalize wr = Y at *
  by_cases hlt : k < m
  ·have hki : (k : Int) < (m : Int) := by omega
   have hkL : k < L.length := by rw [← Hm.out]; exact hlt
   have hkv : k < vs.length := by rw [Hv.out]; exact hkL
   obtain rfl := HS.out.addr (by omega)
   have k0 := HS.out.cell k _ (List.getElem?_eq_getElem hkv)
   have hsz := Hr.out k hkL hkv
   have hln := Hc.out _ (List.getElem_mem hkL)
   have hLk : L.getD k [] = L[k] := by rw [List.getD_eq_getElem?_getD, List.getElem?_eq_getElem hkL]; rfl
   obtain ⟨xa, xb, xo, xc, ex, q1, q2, q3⟩ := hsz
   rw [ex] at k0
   rw [hln] at k0 q1 q2
   have hkf : k < q := by omega
   have hfk : k < fs.length := by rw [← Hq.out]; exact hkf
   obtain rfl := Hfa.out (by omega)
   have f01 := Hfr.out k hfk
   have hfD : fs.getD k 0 = fs[k] := by rw [List.getD_eq_getElem?_getD, List.getElem?_eq_getElem hfk]; rfl
   obtain ⟨p, hp⟩ : ∃ p, p = fs[k] := ⟨_, rfl⟩
   rw [← hp] at f01 hfD
   obtain ⟨f0, f1⟩ := f01
   have y0 := hE.cell k0
   have HfD := Lib.hid hfD
   have HLk := Lib.hid hLk
   have Hq2 := Lib.hid q2
   have Hln := Lib.hid hln
   have Hq3 := Lib.hid (fun i (h : i < L[k].length) => q3 i h)
   have hkfI : (k : Int) < (q : Int) := by omega
   clear ex k0 hln q2 q3 hfD hLk hkv hp
   go_wp2_with fail
   go_loopw [23] (fun iv wr => ∃ i : Nat, i ≤ np ∧ iv = .int .i64 i ∧ Hid (SzO w.heap.size wr g (cmbTo L fs np k i)) ∧ Ext w wr) (fun iv _ => np - (intOf iv).toNat)
   case atStart => exact ⟨0, by omega, by go_num, HO, hE⟩
   case round =>
    obtain ⟨i, hi, rfl, HO, eX⟩ := hrel
    generalize wr = X at *
    by_cases hli : i < np
    ·have hii : (i : Int) < (np : Int) := by omega
     obtain rfl := Hq2.out (by omega)
     have s01 := Hq3.out i (by rw [Hln.out]; exact hli)
     obtain ⟨s, hs⟩ : ∃ s, s = L[k][i]'(by rw [Hln.out]; exact hli) := ⟨_, rfl⟩
     rw [← hs] at s01
     have hFk : cmbF L fs i k = s * p := by
      unfold cmbF
      rw [HLk.out, HfD.out, List.getD_eq_getElem?_getD, List.getElem?_eq_getElem (by rw [Hln.out]; exact hli), hs]; rfl
     have hsN := Hnd.out i k
     rw [hFk] at hsN
     have hsm : SmQ s := Hss.out k i hkL (by rw [Hln.out]; exact hli) s hs
     have hpm : SmQ p := Hpp.out k hfk p (by rw [← HfD.out, List.getD_eq_getElem?_getD, List.getElem?_eq_getElem hfk]; rfl)
     obtain ⟨t, ht⟩ : ∃ t, t = sumR (cmbF L fs i) k := ⟨_, rfl⟩
     have htm := Hsum.out i k (by omega)
     rw [← ht] at htm
     have hil : i < (cmbTo L fs np k i).length := by rw [cmbTo_length]; exact hli
     have t01 := HO.out.cells hil
     have hti : (cmbTo L fs np k i)[i] = t := by
      have := cmbTo_at (l := L) (fs := fs) (k := k) hli
      rw [List.getD_eq_getElem?_getD, List.getElem?_eq_getElem hil, Option.getD_some] at this
      rw [this, ht]
     rw [hti] at t01
     have hst : (cmbTo L fs np k i).set i (t + s * p) = cmbTo L fs np k (i + 1) := by
      rw [ht, ← hFk]; exact cmbTo_step hli
     have Hst := Lib.hid hst
     have Hil := Lib.hid hil
     have dA := (Ext.refl X).alloc (.cells #[I s.num, I s.den] 63)
     have hOn := two_alloc X 63 (I s.num) (I s.den)
     have z0 := hOn.cell (j := 0) (by simp)
     have z1 := hOn.cell (j := 1) (by simp)
     simp only [List.getElem_cons_zero, List.getElem_cons_succ] at z0 z1
     have hmu := Lib.hid (fun W (hW : Ext X W) => ratMul_any (a := s) (b := p) hsm hpm (HL.out.ext (eX.trans hW)))
     have had := Lib.hid (fun W (hW : Ext X W) => ratAdd_any (a := t) (b := s * p) htm (hsN.smQ (by omega)) (HL.out.ext (eX.trans hW)))
     obtain ⟨t0, t1⟩ := t01
     obtain ⟨s0, s1⟩ := s01
     replace s0 := eX.cell s0
     replace s1 := eX.cell s1
     have p0 := (eX.trans dA).cell f0
     have p1 := (eX.trans dA).cell f1
     obtain ⟨bn, hbn⟩ : ∃ bn, bn = X.heap.size := ⟨_, rfl⟩
     rw [← hbn] at z0 z1
     have Hbn := Lib.hid hbn
     clear hst hil hti htm hsN hsm hpm hFk hs ht hlt hli hbn hOn
     go_wp2_with fail
     rw [← Hbn.out]
     generalize X.alloc (.cells #[I s.num, I s.den] 63) = XA at *
     replace t0 := dA.cell t0
     replace t1 := dA.cell t1
     have d0 : Ext XA XA.drew := (Ext.refl XA).drew
     refine wp_region_held_tail (S := fun W => Ext XA W) 13 (by kernel_rfl) (by simp) ?_
     intro inv
     generalize XA.drew = XB at *
     refine wpAnyLH_take (i := 0) (v := slv g np np) rfl (by kernel_rfl) (fun _ _ _ h => h) (.inl ⟨by rfl, fun W hW => by go_simp⟩) d0 inv ?_
     intro inv
     go_simp
     refine wpAnyLH_take (i := 1) (v := .int .i64 i) rfl (by kernel_rfl) (fun _ _ _ h => h) (.inl ⟨by rfl, fun W hW => by go_simp⟩) d0 inv ?_
     intro inv
     go_simp
     refine wpAnyLH_take (i := 2) (v := slv g np np) rfl (by kernel_rfl) (fun _ _ _ h => h) (.inl ⟨by rfl, fun W hW => by go_simp⟩) d0 inv ?_
     intro inv
     go_simp
     refine wpAnyLH_take (i := 3) (v := .int .i64 i) rfl (by kernel_rfl) (fun _ _ _ h => h) (.inl ⟨by rfl, fun W hW => by go_simp⟩) d0 inv ?_
     intro inv
     go_simp
     refine wpAnyLH_take (i := 4) (v := .pointer (some ⟨g, i * 2, none⟩)) rfl (by kernel_rfl) (fun _ _ _ h => h) (.inl ⟨by rfl, fun W hW => by go_simp⟩) d0 inv ?_
     intro inv
     go_simp
     refine wpAnyLH_take (i := 5) (v := RV t) rfl (by kernel_rfl) (fun _ _ _ h => h) (.inl ⟨by rfl, fun W hW => by have y0 := hW.cell t0; have y1 := hW.cell t1; go_simp⟩) d0 inv ?_
     intro inv
     go_simp
     refine wpAnyLH_take (i := 6) (v := RV s) rfl (by kernel_rfl) (fun _ _ _ h => h) (.inl ⟨by rfl, fun W hW => by have y0 := hW.cell z0; have y1 := hW.cell z1; go_simp⟩) d0 inv ?_
     intro inv
     go_simp
     refine wpAnyLH_take (i := 7) (v := .slice (some ⟨fb, fo, none⟩) q fcap) rfl (by kernel_rfl) (fun _ _ _ h => h) (.inl ⟨by rfl, fun W hW => by go_simp⟩) d0 inv ?_
     intro inv
     go_simp
     refine wpAnyLH_take (i := 8) (v := .int .i64 k) rfl (by kernel_rfl) (fun _ _ _ h => h) (.inl ⟨by rfl, fun W hW => by go_simp⟩) d0 inv ?_
     intro inv
     go_simp
     refine wpAnyLH_take (i := 9) (v := .pointer (some ⟨fb, fo + k * 2, none⟩)) rfl (by kernel_rfl) (fun _ _ _ h => h) (.inl ⟨by rfl, fun W hW => by go_simp⟩) d0 inv ?_
     intro inv
     go_simp
     refine wpAnyLH_take (i := 10) (v := RV p) rfl (by kernel_rfl) (fun _ _ _ h => h) (.inl ⟨by rfl, fun W hW => by have y0 := hW.cell p0; have y1 := hW.cell p1; go_simp⟩) d0 inv ?_
     intro inv
     go_simp
     refine wpAnyLH_oneI (i := 11) rfl (by kernel_rfl) inv (fun inv K0 hK0 => ?_)
     go_simp
     refine (hmu.out _ (dA.trans d0)).mono ?_
     rintro e X2 ⟨rfl, hG1⟩
     have d1 := d0.trans hG1
     refine hK0 _ _ d1 ?_
     clear hK0
     refine wpAnyLH_oneI (i := 12) rfl (by kernel_rfl) inv (fun inv K0 hK0 => ?_)
     go_simp
     refine (had.out _ (dA.trans d1)).mono ?_
     rintro e X3 ⟨rfl, hG2⟩
     have d2a := d1.trans hG2
     refine hK0 _ _ d2a ?_
     clear hK0
     have d2 := dA.trans d2a
     refine wpAnyLH_end (by kernel_rfl) ?_
     have HO3 := HO.out.ext d2
     obtain ⟨⟨ca, cb, z0, z1⟩, f0', f1', HO9, hE9⟩ := SzO.step ((eX.trans d2)) Hgw.out HO3 Hil.out (t + s * p)
     rw [Hst.out] at HO9
     clear hmu had inv d0 d1 d2a dA hG1 hG2 t0 t1 s0 s1 p0 p1 HO HO3
     go_wp2_with fail
     go_roundw
     case rel => exact ⟨i + 1, by omega, by go_num, HO9, hE9.out⟩
     case measure => simp [intOf] <;> omega
    ·obtain rfl : i = np := by omega
     have hii : ¬ (i : Int) < (i : Int) := by omega
     have HOn := Lib.hid (show SzO w.heap.size X g (cmbTo L fs i (k + 1) 0) by rw [← cmbTo_row]; exact HO.out)
     clear HO
     go_wp2_with fail
     go_roundw
     case rel => exact ⟨k + 1, by omega, by go_num, HOn, eX⟩
     case measure => simp [intOf] <;> omega
  ·obtain rfl : k = m := by omega
   have hki : ¬ (k : Int) < (k : Int) := by omega
   have HOn := Lib.hid (show SzO w.heap.size Y g (cmbQ L fs np) by rw [← cmbTo_all, ← Hm.out]; exact HO.out)
   clear HO
   go_wp2_with fail
   go_ret
   exact ⟨⟨g, rfl, Hgw.out, HOn.out⟩, hE⟩
end Go.Proofs.YtedlgnoiojcjaaaGreatDoor
