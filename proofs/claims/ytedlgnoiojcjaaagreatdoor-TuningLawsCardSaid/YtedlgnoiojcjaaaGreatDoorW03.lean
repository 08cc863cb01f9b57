/- Part 3, beside the shared parts, of the proof of the claim: contracts and plain laws; no condition. -/
import Derived.Test.YtedlgnoiojcjaaaGreatDoorV01
import Derived.Test.YtedlgnoiojcjaaaGreatDoorV02
import Derived.Test.YtedlgnoiojcjaaaGreatDoorV03
import Derived.Test.YtedlgnoiojcjaaaGreatDoorV04
import Derived.Test.YtedlgnoiojcjaaaGreatDoorV05
import Derived.Test.YtedlgnoiojcjaaaGreatDoorV06
import Derived.Test.YtedlgnoiojcjaaaGreatDoorV07
import Derived.Test.YtedlgnoiojcjaaaGreatDoorV08
import Derived.Test.YtedlgnoiojcjaaaGreatDoorV09
import Derived.Test.YtedlgnoiojcjaaaGreatDoorV10
import Derived.Test.YtedlgnoiojcjaaaGreatDoorV11
import Derived.Test.YtedlgnoiojcjaaaGreatDoorV12
import Derived.Test.YtedlgnoiojcjaaaGreatDoorV13
import Derived.Test.YtedlgnoiojcjaaaGreatDoorV14
import Derived.Test.YtedlgnoiojcjaaaGreatDoorV15
import Derived.Test.YtedlgnoiojcjaaaGreatDoorV16
import Derived.Test.YtedlgnoiojcjaaaGreatDoorV17
import Derived.Test.YtedlgnoiojcjaaaGreatDoorV18
import Derived.Test.YtedlgnoiojcjaaaGreatDoorV19
import Derived.Test.YtedlgnoiojcjaaaGreatDoorV20
import Derived.Test.YtedlgnoiojcjaaaGreatDoorV21
import Derived.Test.YtedlgnoiojcjaaaGreatDoorV22
import Derived.Test.YtedlgnoiojcjaaaGreatDoorV23
import Derived.Test.YtedlgnoiojcjaaaGreatDoorV24
import Derived.Test.YtedlgnoiojcjaaaGreatDoorV25
import Derived.Test.YtedlgnoiojcjaaaGreatDoorV26
import Derived.Test.YtedlgnoiojcjaaaGreatDoorV27
import Derived.Test.YtedlgnoiojcjaaaGreatDoorV28
import Derived.Test.YtedlgnoiojcjaaaGreatDoorV29
import Derived.Test.YtedlgnoiojcjaaaGreatDoorV30
import Derived.Test.YtedlgnoiojcjaaaGreatDoorV31
import Derived.Test.YtedlgnoiojcjaaaGreatDoorW01
import Derived.Test.YtedlgnoiojcjaaaGreatDoorW02
import Derived.Scope
import Derived.BigQuiet
set_option maxRecDepth 100000
namespace Go.Proofs.YtedlgnoiojcjaaaGreatDoor
open Go.RowKit Go.Sort
section
variable {w : World} {ops : Array Oper} {o : Oper} {a : Act} {K : Act → World → Prop} {Q : Exit → Act → World → Prop} {E : Prop}
theorem app_int_step (hgd : o.guard = none) (s x : Operand) (t : TypeId) (ht : Tryz.prog.underlying t = some (.slice 3)) (ho : o.op = .call { callee := .builtin .append, args := #[s, x], argTypes := #[t, t] })
  {B : Nat} {v : Value} {r : List Int} (hs : a.eval s = v) (hown : RowV B w v r) {b : Nat} {z : Int} (hx : a.eval x = .slice (some ⟨b, 0, none⟩) 1 1) (hc : w.cell? ⟨b, 0, none⟩ = some (.int .i64 z)) (hl : r.length ≤ 1000000000) (hB : B ≤ w.heap.size)
  (h : ∀ g cap w', RowV B w' (slv g (r.length + 1) cap) (r ++ [z]) → Below B w w' → w.grownBy w' v.ownBlock → K (a.put o.dst (slv g (r.length + 1) cap)) w') : if Region.wanted o (yielded ops a.tmps) = true then Oper.wp Tryz.prog o a w K Q else E := by
 obtain ⟨i0, hi, hz0, hz1, hz2⟩ := info_parts Tryz.infoInt
 refine step_append_lies w hgd s x t ho B 3 i0 _ 1 8 ht hi hz0 hz1 hz2 rfl (by omega) v r.length (is r) hs hown ⟨b, 0, none⟩ 1 1 [.int .i64 z] hx rfl ?_ (one_int _ _) (by omega) (by unfold maxLen; omega) (by omega) hB w.heap.size rfl ?_
 ·intro j u hj
  have : j = 0 := by have := (List.getElem?_eq_some_iff.1 hj).1; simp at this; omega
  subst this
  simp only [List.getElem?_cons_zero, Option.some.injEq] at hj
  subst hj
  simpa [Addr.add_lit] using hc
 ·intro g cap w' h1 h2 h3 h4
  refine h g cap w' ?_ (Below.grown (Below.refl _ _) h2 hB (fun q hq => (World.ownsRow.lt hown q hq).1)) h2
  unfold RowV
  rw [is_snoc, List.length_append]; exact h1
end
def MzS (n : Nat) (x : List Int) : Prop := x.length = n ∧ ∀ z ∈ x, -1000 ≤ z ∧ z ≤ 1000
set_option maxHeartbeats 4000000 in
theorem mcheckAll_ok {w : World} {vp : Value} {P : List Int} {b m cc : Nat} {xs : List (List Int)} (hP : RowR w vp P) (hp0 : 0 < P.length) (hp4 : P.length ≤ 4) (hpr : ∀ x ∈ P, SmP x) (hinc : ∀ i (h : i + 1 < P.length), P[i]'(by omega) < P[i + 1]) (hm : xs.length = m) (hm4 : m ≤ 1000)
  (hb : ∀ j (h : j < xs.length), ∃ v, w.cell? ⟨b, j, none⟩ = some v ∧ RowR w v xs[j]) (hs : ∀ x ∈ xs, MzS P.length x) :
  Calls Tryz.prog 109 #[vp, .slice (some ⟨b, 0, none⟩) m cc] w fun e w' => e = .returned (.int .i64 0) ∧ Ext w w' := by
 have hck := Lib.hid (pCheck_ok hP hp0 (by omega) hpr hinc)
 obtain ⟨sp, gp, op, cp, rfl, hpc, hSp⟩ := hP
 obtain ⟨n, hn⟩ : ∃ n, n = P.length := ⟨_, rfl⟩
 rw [← hn] at hck hs ⊢
 have Hb := Lib.hid hb
 have Hs := Lib.hid hs
 have Hm := Lib.hid hm
 have hn4 : n ≤ 4 := by omega
 clear hSp hs hb hn hpr hinc hp0 hp4 hpc hm
 go_enter Tryz.func109, Tryz.ntmps109
 go_wp2_with fail
 refine hck.out.mono ?_
 rintro e X ⟨rfl, hE1⟩
 clear hck
 go_wp2_with fail
 go_loopw [4, 17] (fun rv idx wr => ∃ i : Nat, i ≤ m ∧ idx = .int .i64 i ∧ rv = .int .i64 0 ∧ Ext X wr) (fun _ idx _ => m - (intOf idx).toNat)
 case atStart => exact ⟨0, by omega, by go_num, rfl, Ext.refl _⟩
 case round =>
  obtain ⟨i, hi, rfl, rfl, hE⟩ := hrel
  generalize wr = Y at *
  by_cases hlt : i < m
  ·have hii : (i : Int) < (m : Int) := by omega
   have hix : i < xs.length := by rw [Hm.out]; exact hlt
   obtain ⟨v, hv, hR⟩ := Hb.out i hix
   obtain ⟨x, hx⟩ : ∃ x, x = xs[i] := ⟨_, rfl⟩
   have hsx := Hs.out x (by rw [hx]; exact List.getElem_mem hix)
   rw [← hx] at hR
   obtain ⟨sx, gx, ox, cx, rfl, hxc, hSx⟩ := hR
   have HSx := Lib.hid hSx
   have yb1 := hE.cell (hE1.cell hv)
   have Hl := Lib.hid hsx.1
   have Hz := Lib.hid hsx.2
   rw [hsx.1] at yb1
   clear hSx hv hx hix hsx hxc hlt
   go_wp2_with fail
   go_loopw [4, 28] (fun rv idx wr => ∃ j : Nat, j ≤ n ∧ idx = .int .i64 j ∧ rv = .int .i64 0 ∧ Ext Y wr) (fun _ idx _ => n - (intOf idx).toNat)
   case atStart => exact ⟨0, by omega, by go_num, rfl, Ext.refl _⟩
   case round =>
    obtain ⟨j, hj, rfl, rfl, hE2⟩ := hrel
    generalize wr = Z at *
    by_cases hjl : j < n
    ·have hji : (j : Int) < (n : Int) := by omega
     have hjx : j < x.length := by rw [Hl.out]; exact hjl
     obtain ⟨z, hz⟩ : ∃ z, z = x[j] := ⟨_, rfl⟩
     have hcz := ((hE1.trans hE).trans hE2).cell (HSx.out.cell j (.int .i64 z) (by rw [hz]; exact is_get hjx))
     obtain rfl := HSx.out.addr (by simp; omega)
     have hzb := Hz.out z (by rw [hz]; exact List.getElem_mem hjx)
     have hz1 : ¬ (1000 : Int) < z := by omega
     have hz2 : ¬ z < (-1000 : Int) := by omega
     clear hz hzb
     go_wp2_with fail
     go_roundw
     case rel => exact ⟨j + 1, by omega, by go_num, rfl, hE2⟩
     case measure => simp [intOf] <;> omega
    ·obtain rfl : j = n := by omega
     go_wp2_with fail
     go_roundw
     case rel => exact ⟨i + 1, by omega, by go_num, rfl, hE.trans hE2⟩
     case measure => simp [intOf] <;> omega
  ·obtain rfl : i = m := by omega
   have hii : ¬ (i : Int) < (i : Int) := by omega
   go_wp2_with fail
   go_ret
   exact ⟨rfl, hE1.trans hE⟩
theorem mresult_ok {w : World} {vp v : Value} {P x : List Int} (hP : RowR w vp P) (hp0 : 0 < P.length) (hp4 : P.length ≤ 4) (hpr : ∀ x ∈ P, SmP x) (hinc : ∀ i (h : i + 1 < P.length), P[i]'(by omega) < P[i + 1]) (hx : RowR w v x) (hs : MzS P.length x) :
  Calls Tryz.prog 110 #[vp, v] w fun e w' => e = .returned (.tuple #[v, .int .i64 0]) ∧ Ext w w' := by
 have hX := (Ext.refl w).alloc (.cells #[v] 46)
 have xb : (w.alloc (.cells #[v] 46)).cell? ⟨w.heap.size, 0, none⟩ = some v := by go_simp
 have hck := Lib.hid (mcheckAll_ok (cc := 1) (xs := [x]) (hP.ext hX) hp0 hp4 hpr hinc (m := 1) rfl (by omega) (b := w.heap.size) (fun j h => by
  have : j = 0 := by simp at h; omega
  subst this
  exact ⟨v, xb, hx.ext hX⟩) (fun y hy => by simp only [List.mem_cons, List.not_mem_nil, or_false] at hy; subst hy; exact hs))
 obtain ⟨sx, gx, ox, cx, rfl, hxc, hSx⟩ := hx
 obtain ⟨sp, gp, op, cp, rfl, hpc, hSp⟩ := hP
 clear hSp hSx hs hpr hinc hpc hxc xb
 go_enter Tryz.func110, Tryz.ntmps110
 go_wp2_with fail
 refine hck.out.mono ?_
 rintro e X ⟨rfl, hE1⟩
 go_wp2_with fail
 go_ret2
 exact ⟨rfl, hX.trans hE1⟩
def mzA (x y : List Int) : List Int := (List.range x.length).map fun i => x.getD i 0 + y.getD i 0
@[simp] theorem mzA_length (x y : List Int) : (mzA x y).length = x.length := by simp [mzA]
theorem mzA_take {x y : List Int} {i : Nat} (h : i < x.length) : (mzA x y).take (i + 1) = (mzA x y).take i ++ [x.getD i 0 + y.getD i 0] := by
 rw [List.take_succ_eq_append_getElem (by simpa using h)]
 congr 2
 simp [mzA]
theorem mzA_bd {x y : List Int} {n : Nat} (hx : x.length = n) (hy : y.length = n) (bx : ∀ z ∈ x, -100 ≤ z ∧ z ≤ 100) (by' : ∀ z ∈ y, -100 ≤ z ∧ z ≤ 100) : MzS n (mzA x y) := by
 refine ⟨by simp [hx], fun z hz => ?_⟩
 obtain ⟨i, hi, rfl⟩ := List.mem_map.1 hz
 rw [List.mem_range] at hi
 have h1 := bx _ (List.getElem_mem hi)
 have h2 := by' _ (List.getElem_mem (show i < y.length by omega))
 rw [getD_get hi, getD_get (show i < y.length by omega)]
 omega
set_option maxHeartbeats 4000000 in
theorem msum_ok {w : World} {vp vx vy : Value} {P x y : List Int} (hP : RowR w vp P) (hp0 : 0 < P.length) (hp4 : P.length ≤ 4) (hpr : ∀ x ∈ P, SmP x) (hinc : ∀ i (h : i + 1 < P.length), P[i]'(by omega) < P[i + 1]) (hx : RowR w vx x) (hy : RowR w vy y) (lx : x.length = P.length) (ly : y.length = P.length) (bx : ∀ z ∈ x, -100 ≤ z ∧ z ≤ 100) (by' : ∀ z ∈ y, -100 ≤ z ∧ z ≤ 100) :
  Calls Tryz.prog 63 #[vp, vx, vy, .int .i64 1] w fun e w' => ∃ v, e = .returned (.tuple #[v, .int .i64 0]) ∧ RowV w.heap.size w' v (mzA x y) ∧ Ext w w' := by
 have hX := (Ext.refl w).alloc (.cells #[vx, vy] 46)
 have xb0 : (w.alloc (.cells #[vx, vy] 46)).cell? ⟨w.heap.size, 0, none⟩ = some vx := by go_simp
 have xb1 : (w.alloc (.cells #[vx, vy] 46)).cell? ⟨w.heap.size, 1, none⟩ = some vy := by go_simp
 have hck := Lib.hid (mcheckAll_ok (cc := 2) (xs := [x, y]) (hP.ext hX) hp0 hp4 hpr hinc (m := 2) rfl (by omega) (b := w.heap.size) (fun j h => by
  simp at h
  rcases (show j = 0 ∨ j = 1 by omega) with rfl | rfl
  ·exact ⟨vx, xb0, hx.ext hX⟩
  ·exact ⟨vy, xb1, hy.ext hX⟩) (fun z hz => by
   simp only [List.mem_cons, List.not_mem_nil, or_false] at hz
   rcases hz with rfl | rfl
   ·exact ⟨lx, fun u hu => by have := bx u hu; omega⟩
   ·exact ⟨ly, fun u hu => by have := by' u hu; omega⟩))
 have Hres := Lib.hid (fun W v (hW : Ext w W) (hv : RowR W v (mzA x y)) => mresult_ok (hP.ext hW) hp0 hp4 hpr hinc hv (mzA_bd lx ly bx by'))
 have Hby := Lib.hid by'
 have Hbx := Lib.hid bx
 have Hlx := Lib.hid lx
 have Hly := Lib.hid ly
 obtain ⟨sx, gx, ox, cx, rfl, hxc, hSx⟩ := hx
 obtain ⟨sy, gy, oy, cy, rfl, hyc, hSy⟩ := hy
 have HSx := Lib.hid hSx
 have HSy := Lib.hid hSy
 obtain ⟨sp, gp, op, cp, rfl, hpc, hSp⟩ := hP
 obtain ⟨n, hn⟩ : ∃ n, n = P.length := ⟨_, rfl⟩
 have Hn := Lib.hid hn
 rw [← hn] at hck Hres hp4 Hlx Hly ⊢
 rw [lx, ← hn] at hck hxc hX ⊢
 rw [ly, ← hn] at hck hyc hX ⊢
 have hsz : w.heap.size ≤ w.heap.size := Nat.le_refl _
 clear hSx hSy hSp bx by' lx ly hpr hinc hp0 hpc xb0 xb1 hn
 go_enter Tryz.func63, Tryz.ntmps63
 go_wp2_with fail
 refine hck.out.mono ?_
 rintro e X ⟨rfl, hE1⟩
 have e1 := hX.trans hE1
 clear hck hE1 hX
 go_wp2_with fail
 go_loopw [11, 23] (fun out idx wr => ∃ i : Nat, i ≤ n ∧ idx = .int .i64 i ∧ Hid (RowV w.heap.size wr out ((mzA x y).take i)) ∧ Ext w wr) (fun _ idx _ => n - (intOf idx).toNat)
 case atStart => exact ⟨0, by omega, by go_num, Lib.hid (RowV.nil _ _), e1⟩
 case round =>
  obtain ⟨i, hi, rfl, hO, hE⟩ := hrel
  generalize wr = Y at *
  by_cases hlt : i < n
  ·have hii : (i : Int) < (n : Int) := by omega
   have hix : i < x.length := by rw [Hlx.out]; exact hlt
   have hiy : i < y.length := by rw [Hly.out]; exact hlt
   obtain ⟨p, hp⟩ : ∃ p, p = x[i] := ⟨_, rfl⟩
   obtain ⟨q, hq⟩ : ∃ q, q = y[i] := ⟨_, rfl⟩
   have cp' := (HSx.out.cell i (.int .i64 p) (by rw [hp]; exact is_get hix))
   have cq' := (HSy.out.cell i (.int .i64 q) (by rw [hq]; exact is_get hiy))
   obtain rfl := HSx.out.addr (by simp; omega)
   obtain rfl := HSy.out.addr (by simp; omega)
   have hpb := Hbx.out p (by rw [hp]; exact List.getElem_mem hix)
   have hqb := Hby.out q (by rw [hq]; exact List.getElem_mem hiy)
   have Hsn := Lib.hid (show (mzA x y).take (i + 1) = (mzA x y).take i ++ [p + q] by rw [mzA_take hix, getD_get hix, getD_get hiy, hp, hq])
   have Hrl := Lib.hid (show ((mzA x y).take i).length = i by rw [List.length_take, mzA_length]; omega)
   have hwq : IntKind.i64.wrap q = q := IntWalk.i64_in _ (by omega)
   have hwpq : IntKind.i64.wrap (p + q) = p + q := IntWalk.i64_in _ (by omega)
   have hYs := hE.size
   have HYs := Lib.hid hYs
   clear hp hq hlt hix hiy hYs
   go_wp2_with fail
   have dY : Ext Y Y.drew := (Ext.refl Y).drew
   have d0 : Ext w Y.drew := hE.trans dY
   refine wp_region_held_tail (S := fun W => Ext w W) 14 (by kernel_rfl) (by simp) ?_
   intro inv
   generalize Y.drew = Yd at *
   refine wpAnyLH_take (i := 0) (v := u11) rfl (by kernel_rfl) (fun _ _ _ h => h) (.inl ⟨by rfl, fun W hW => by go_simp⟩) d0 inv ?_
   intro inv
   go_simp
   refine wpAnyLH_take (i := 1) (v := .slice (some ⟨gx, ox, none⟩) n cx) rfl (by kernel_rfl) (fun _ _ _ h => h) (.inl ⟨by rfl, fun W hW => by go_simp⟩) d0 inv ?_
   intro inv
   go_simp
   refine wpAnyLH_take (i := 2) (v := .int .i64 i) rfl (by kernel_rfl) (fun _ _ _ h => h) (.inl ⟨by rfl, fun W hW => by go_simp⟩) d0 inv ?_
   intro inv
   go_simp
   refine wpAnyLH_take (i := 3) (v := .pointer (some ⟨gx, ox + i, none⟩)) rfl (by kernel_rfl) (fun _ _ _ h => h) (.inl ⟨by rfl, fun W hW => by go_simp⟩) d0 inv ?_
   intro inv
   go_simp
   refine wpAnyLH_take (i := 4) (v := .int .i64 p) rfl (by kernel_rfl) (fun _ _ _ h => h) (.inl ⟨by rfl, fun W hW => by have z0 := hW.cell cp'; go_simp⟩) d0 inv ?_
   intro inv
   go_simp
   refine wpAnyLH_take (i := 5) (v := .int .i64 1) rfl (by kernel_rfl) (fun _ _ _ h => h) (.inl ⟨by rfl, fun W hW => by go_simp⟩) d0 inv ?_
   intro inv
   go_simp
   refine wpAnyLH_take (i := 6) (v := .slice (some ⟨gy, oy, none⟩) n cy) rfl (by kernel_rfl) (fun _ _ _ h => h) (.inl ⟨by rfl, fun W hW => by go_simp⟩) d0 inv ?_
   intro inv
   go_simp
   refine wpAnyLH_take (i := 7) (v := .int .i64 i) rfl (by kernel_rfl) (fun _ _ _ h => h) (.inl ⟨by rfl, fun W hW => by go_simp⟩) d0 inv ?_
   intro inv
   go_simp
   refine wpAnyLH_take (i := 8) (v := .pointer (some ⟨gy, oy + i, none⟩)) rfl (by kernel_rfl) (fun _ _ _ h => h) (.inl ⟨by rfl, fun W hW => by go_simp⟩) d0 inv ?_
   intro inv
   go_simp
   refine wpAnyLH_take (i := 9) (v := .int .i64 q) rfl (by kernel_rfl) (fun _ _ _ h => h) (.inl ⟨by rfl, fun W hW => by have z0 := hW.cell cq'; go_simp⟩) d0 inv ?_
   intro inv
   go_simp
   refine wpAnyLH_take (i := 10) (v := .int .i64 q) rfl (by kernel_rfl) (fun _ _ _ h => h) (.inl ⟨by rfl, fun W hW => by go_simp⟩) d0 inv ?_
   intro inv
   go_simp
   refine wpAnyLH_take (i := 11) (v := .int .i64 (p + q)) rfl (by kernel_rfl) (fun _ _ _ h => h) (.inl ⟨by rfl, fun W hW => by go_simp⟩) d0 inv ?_
   intro inv
   go_simp
   refine wpAnyLH_oneI (i := 12) rfl (by kernel_rfl) inv (fun inv K0 hK0 => ?_)
   go_simp
   have d1 := d0.alloc (.cells #[.int .i64 (p + q)] 3)
   have dY1 := dY.alloc (.cells #[.int .i64 (p + q)] 3)
   refine hK0 _ _ d1 ?_
   clear hK0
   refine wpAnyLH_oneI (i := 13) rfl (by kernel_rfl) inv (fun inv K0 hK0 => ?_)
   refine app_int_step (by rfl) _ _ 46 Tryz.underlying46 (by rfl) (by rfl) (hO.out.ext dY1) (b := Yd.heap.size) (z := p + q) (by rfl) (by go_simp) (by rw [Hrl.out]; omega) (by have := d1.size; omega) ?_
   intro g9 c9 W9 hO9 hB9 hG9
   rw [Hrl.out] at hO9 ⊢
   rw [← Hsn.out] at hO9
   have e9 : Ext w W9 := Below.trans d1 hB9
   refine hK0 _ _ e9 ?_
   clear hK0
   refine wpAnyLH_end (by kernel_rfl) ?_
   have HO9 := Lib.hid hO9
   clear hO9 hB9 hG9 inv d0 dY d1 dY1
   go_wp2_with fail
   go_roundw
   case rel => exact ⟨i + 1, by omega, by go_num, HO9, e9⟩
   case measure => simp [intOf] <;> omega
  ·obtain rfl : i = n := by omega
   have hii : ¬ (i : Int) < (i : Int) := by omega
   have HF := Lib.hid (show RowV w.heap.size Y u11 (mzA x y) by have := hO.out; rwa [List.take_of_length_le (by rw [mzA_length, Hlx.out]; exact Nat.le_refl _)] at this)
   have hres := Lib.hid (Hres.out Y _ hE HF.out.row)
   go_wp2_with fail
   refine hres.out.mono ?_
   rintro e Z ⟨rfl, hE2⟩
   go_wp2_with fail
   go_ret2
   exact ⟨_, rfl, HF.out.ext hE2, hE.trans hE2⟩
theorem mAdd_ok {w : World} {vp vx vy : Value} {P x y : List Int} (hP : RowR w vp P) (hp0 : 0 < P.length) (hp4 : P.length ≤ 4) (hpr : ∀ x ∈ P, SmP x) (hinc : ∀ i (h : i + 1 < P.length), P[i]'(by omega) < P[i + 1]) (hx : RowR w vx x) (hy : RowR w vy y) (lx : x.length = P.length) (ly : y.length = P.length) (bx : ∀ z ∈ x, -100 ≤ z ∧ z ≤ 100) (by' : ∀ z ∈ y, -100 ≤ z ∧ z ≤ 100) :
  Calls Tryz.prog 15 #[vp, vx, vy] w fun e w' => ∃ v, e = .returned (.tuple #[v, .int .i64 0]) ∧ RowV w.heap.size w' v (mzA x y) ∧ Ext w w' := by
 have hs := Lib.hid (msum_ok hP hp0 hp4 hpr hinc hx hy lx ly bx by')
 obtain ⟨sx, gx, ox, cx, rfl, hxc, hSx⟩ := hx
 obtain ⟨sy, gy, oy, cy, rfl, hyc, hSy⟩ := hy
 obtain ⟨sp, gp, op, cp, rfl, hpc, hSp⟩ := hP
 clear hSx hSy hSp bx by' lx ly hpr hinc hp0 hp4 hpc hxc hyc
 go_enter Tryz.func15, Tryz.ntmps15
 go_wp2_with fail
 refine hs.out.mono ?_
 rintro e X ⟨v, rfl, hv, hE1⟩
 go_wp2_with fail
 go_ret2
 exact ⟨v, rfl, hv, hE1⟩
end Go.Proofs.YtedlgnoiojcjaaaGreatDoor
namespace Go.Proofs.YtedlgnoiojcjaaaGreatDoor
theorem mzA_getD {x y : List Int} (h : x.length = y.length) (i : Nat) : (mzA x y).getD i 0 = x.getD i 0 + y.getD i 0 := by
 by_cases hi : i < x.length
 ·simp only [mzA]
  rw [List.getD_eq_getElem?_getD, List.getElem?_map, List.getElem?_range hi]
  simp
 ·rw [List.getD_eq_getElem?_getD, List.getD_eq_getElem?_getD, List.getD_eq_getElem?_getD, List.getElem?_eq_none (by simp; omega), List.getElem?_eq_none (by omega), List.getElem?_eq_none (by omega)]
  simp
theorem sumZ_add2 (f g h : Nat → Int) (e : ∀ i, h i = f i + g i) : ∀ k, sumZ h k = sumZ f k + sumZ g k
 | 0 => by simp [sumZ]
 | k + 1 => by
  rw [sumZ, sumZ, sumZ, sumZ_add2 f g h e k, e]
  omega
theorem sumR_add2 (f g h : Nat → Rat) (e : ∀ i, h i = f i + g i) : ∀ k, sumR h k = sumR f k + sumR g k
 | 0 => by simp [sumR]; grind
 | k + 1 => by
  rw [sumR, sumR, sumR, sumR_add2 f g h e k, e]
  grind
theorem tmpE_mzA {x y : List Int} (h : x.length = y.length) (v : List Int) : tmpE (mzA x y) v = tmpE x v + tmpE y v := by
 unfold tmpE
 rw [mzA_length, ← h]
 exact sumZ_add2 _ _ _ (fun i => by rw [mzA_getD h, Int.add_mul]) _
theorem nbL_getD (l : List Int) (k : Nat) : (nbL l).getD k 0 = ((l.getD k 0 : Int) : Rat) := by
 unfold nbL
 rw [List.getD_eq_getElem?_getD, List.getD_eq_getElem?_getD, List.getElem?_map]
 cases l[k]? <;> rfl
theorem tmpL_mzA {x y : List Int} (h : x.length = y.length) (M : Mx) (k : Nat) : (tmpL M (mzA x y)).getD k 0 = (tmpL M x).getD k 0 + (tmpL M y).getD k 0 := by
 unfold tmpL
 rw [List.getD_eq_getElem?_getD, List.getD_eq_getElem?_getD, List.getD_eq_getElem?_getD, List.getElem?_map, List.getElem?_map, List.getElem?_map]
 cases M[k]? with
 | none => rfl
 | some v => exact tmpE_mzA h v
theorem tuL_get {np : Nat} {M : Mx} {G : List (List Rat)} {x : List Int} {c : Nat} (h : c < (tuL np M G x).length) : (tuL np M G x)[c] = sumR (cmbF G (nbL (tmpL M x)) c) G.length := cmbQ_get (l := G) (fs := nbL (tmpL M x)) (n := np) h
theorem tuL_mzA {x y : List Int} (h : x.length = y.length) (np : Nat) (M : Mx) (G : List (List Rat)) : tuL np M G (mzA x y) = addL np (tuL np M G x) (tuL np M G y) := by
 refine List.ext_getElem (by simp [tuL, addL]) fun c h1 h2 => ?_
 have hc : c < np := by simpa [addL] using h2
 simp only [addL, List.getElem_map, List.getElem_range]
 rw [ratD_get (show c < (tuL np M G x).length by simpa [tuL] using hc), ratD_get (show c < (tuL np M G y).length by simpa [tuL] using hc)]
 rw [tuL_get, tuL_get, tuL_get]
 refine sumR_add2 _ _ _ (fun k => ?_) _
 unfold cmbF
 rw [nbL_getD, nbL_getD, nbL_getD, tmpL_mzA h, Rat.intCast_add]
 grind
theorem tuL_zero {x : List Int} {np : Nat} {M : Mx} {G : List (List Rat)} (h : ∀ v ∈ M, tmpE x v = 0) : tuL np M G x = List.replicate np 0 := by
 refine List.ext_getElem (by simp [tuL]) fun c h1 h2 => ?_
 rw [List.getElem_replicate, tuL_get]
 have e : ∀ k, cmbF G (nbL (tmpL M x)) c k = 0 := fun k => by
  unfold cmbF
  rw [nbL_getD]
  have : (tmpL M x).getD k 0 = 0 := by
   unfold tmpL
   rw [List.getD_eq_getElem?_getD, List.getElem?_map]
   cases hk : M[k]? with
   | none => rfl
   | some v => exact h v (List.mem_of_getElem? hk)
  rw [this]
  show _ * (0 : Rat) = 0
  grind
 generalize G.length = m
 induction m with
 | zero => rfl
 | succ m ih => rw [sumR, ih, e]; grind
end Go.Proofs.YtedlgnoiojcjaaaGreatDoor
namespace Go.Proofs.YtedlgnoiojcjaaaGreatDoor
open Go.RowKit Go.Sort
set_option maxHeartbeats 1000000 in
theorem dLcm_any {u v : Nat} (hu0 : u ≠ 0) (hv0 : v ≠ 0) (huv : Lib.nDigits u + Lib.nDigits v < LIM) {w : World} (hL : Laid w) :
  Calls Tryz.prog 171 #[D u, D v] w fun e w' => e = .returned (D (Nat.lcm u v)) ∧ Ext w w' := by
 have HL := Lib.hid hL
 have hvz : (Lib.decDigits v == [48]) = false := by rw [dec_eq_zero, decide_eq_false hv0]
 have huz : (Lib.decDigits u == [48]) = false := by rw [dec_eq_zero, decide_eq_false hu0]
 have hgp : Nat.gcd u v ≠ 0 := Nat.gcd_ne_zero_left hu0
 have hgl : Nat.gcd u v ≤ u := Nat.gcd_le_left _ (by omega)
 have pu := Lib.nDigits_pos u
 have pv := Lib.nDigits_pos v
 have hg := Lib.hid (dGcd_any (u := u) (v := v) (by omega) (by omega) hL)
 have hd := Lib.hid (fun w hL => dDivMod_any (u := u) (v := Nat.gcd u v) (w := w) (by omega) (by have := nDigits_mono hgl; omega) hgp hL)
 have hm := Lib.hid (fun w hL => dMul_any (u := u / Nat.gcd u v) (v := v) (w := w) (by have := nDigits_mono (Nat.div_le_self u (Nat.gcd u v)); omega) hL)
 have He := Lib.hid (show u / Nat.gcd u v * v = Nat.lcm u v by
  rw [Nat.lcm, Nat.div_mul_right_comm (Nat.gcd_dvd_left u v)])
 rw [He.out] at hm
 clear hu0 hv0 huv hgp hgl pu pv hL He
 generalize Nat.gcd u v = g at *
 generalize Nat.lcm u v = L at *
 generalize u / g = q at *
 generalize u % g = r at *
 go_enter Tryz.func171, Tryz.ntmps171
 go_wp2_with fail
 refine hg.out.mono ?_
 rintro e w1 ⟨rfl, hE1⟩
 go_wp2_with fail
 refine (hd.out _ (HL.out.ext hE1)).mono ?_
 rintro e w2 ⟨rfl, hE2⟩
 go_wp2_with fail
 refine (hm.out _ (HL.out.ext (hE1.trans hE2))).mono ?_
 rintro e w3 ⟨rfl, hE3⟩
 go_wp2_with fail
 go_ret
 exact ⟨rfl, (hE1.trans hE2).trans hE3⟩
theorem wLcm_any {a b : Int} (ha : a ≠ 0) (hb : b ≠ 0) (hab : nd a + nd b < LIM) {w : World} (hL : Laid w) :
  Calls Tryz.prog 117 #[I a, I b] w fun e w' => e = .returned (I (Nat.lcm a.natAbs b.natAbs : Nat)) ∧ Ext w w' := by
 have HL := Lib.hid hL
 have h1 := Lib.hid (Abs_any (z := a) (by omega))
 have h2 := Lib.hid (Abs_any (z := b) (by omega))
 have hl := Lib.hid (fun w hL => dLcm_any (u := a.natAbs) (v := b.natAbs) (w := w) (by omega) (by omega) hab hL)
 rw [I_nat]
 rw [I_nat] at h1 h2
 clear hL ha hb hab
 generalize a.natAbs = u at *
 generalize b.natAbs = v at *
 go_enter Tryz.func117, Tryz.ntmps117
 go_wp2_with fail
 refine (h1.out _).mono ?_
 rintro e w1 ⟨rfl, hE1⟩
 go_wp2_with fail
 refine (h2.out _).mono ?_
 rintro e w2 ⟨rfl, hE2⟩
 go_wp2_with fail
 refine (hl.out _ (HL.out.ext (hE1.trans hE2))).mono ?_
 rintro e w3 ⟨rfl, hE3⟩
 go_wp2_with fail
 go_ret
 exact ⟨rfl, (hE1.trans hE2).trans hE3⟩
theorem I_one' : I 1 = .string ⟨#[49]⟩ := by unfold I S; rw [itoa_one]
set_option maxHeartbeats 4000000 in
theorem termsZ_any {w : World} {vp v : Value} {n : Nat} (hs : SzR w v (List.replicate n 0)) (hn : n ≤ 1000) (hL : Laid w) :
  Calls Tryz.prog 69 #[vp, v] w fun e w' => e = .returned (.agg #[.slice none 0 0, .slice none 0 0, .string ⟨#[49]⟩]) ∧ Ext w w' := by
 obtain ⟨sa, gb, go, cap, rfl, hc, ha, hr⟩ := hs
 rw [List.length_replicate] at hc ha ⊢
 have Hr := Lib.hid (fun i (h : i < n) => show w.cell? ⟨gb, go + i * 2, none⟩ = some (.string ⟨#[48]⟩) ∧ w.cell? ⟨gb, go + i * 2 + 1, none⟩ = some (.string ⟨#[49]⟩) by
  have := hr i (by simpa using h)
  simp only [List.getElem_replicate] at this
  rw [I_zeroR.1, I_zeroR.2] at this; exact this)
 have h1 : nd (1 : Int) ≤ 1 := nDigits_le (u := 1) (k := 1) (by omega) (by omega)
 have hlc := Lib.hid (fun W (hW : Ext w W) => wLcm_any (a := 1) (b := 1) (by omega) (by omega) (by unfold LIM; omega) (hL.ext hW))
 rw [show ((Nat.lcm (1 : Int).natAbs (1 : Int).natAbs : Nat) : Int) = 1 from rfl, I_one'] at hlc
 have Ha := Lib.hid ha
 have hX1 := (Ext.refl w).alloc (.cells #[.slice none 0 0, .slice none 0 0, .string ⟨#[]⟩] 122)
 have hR := own3 w 122 (.slice none 0 0) (.slice none 0 0) (.string ⟨#[]⟩)
 obtain ⟨V, hV⟩ : ∃ V, V = w.alloc (.cells #[.slice none 0 0, .slice none 0 0, .string ⟨#[]⟩] 122) := ⟨_, rfl⟩
 rw [← hV] at hX1 hR
 have hVs : V.heap.size = w.heap.size + 1 := by rw [hV]; simp
 have hT := own3 V 122 (.slice none 0 0) (.slice none 0 0) (.string ⟨#[49]⟩)
 have hZ := (Ext.refl V).alloc (.cells #[.slice none 0 0, .slice none 0 0, .string ⟨#[49]⟩] 122)
 rw [hVs] at hT
 have HR := Lib.hid hR
 have HVs := Lib.hid hVs
 have HV := Lib.hid hV
 have HX1 := Lib.hid hX1
 clear hr ha h1 hL hR hVs hV hX1
 go_enter Tryz.func69, Tryz.ntmps69
 go_wp2_with fail
 rw [← HV.out]
 generalize V.alloc (.cells #[.slice none 0 0, .slice none 0 0, .string ⟨#[49]⟩] 122) = Z at *
 have hB := Lib.hid (show Below (w.heap.size + 1) V Z from Below.mono hZ (by rw [HVs.out]; exact Nat.le_refl _))
 have HT := Lib.hid hT
 have Hsz := Lib.hid (show V.heap.size ≤ Z.heap.size from hZ.size)
 clear hT hZ
 go_loopw [16] (fun iv wr => ∃ i : Nat, i ≤ n ∧ iv = .int .i64 i ∧ Hid (OwnV 122 (w.heap.size + 1) wr (w.heap.size + 1) 3 [.slice none 0 0, .slice none 0 0, .string ⟨#[49]⟩]) ∧ Hid (Below (w.heap.size + 1) V wr)) (fun iv _ => n - (intOf iv).toNat)
 case atStart => exact ⟨0, by omega, by go_num, HT, hB⟩
 case round =>
  obtain ⟨i, hi, rfl, HT, HB⟩ := hrel
  generalize wr = X at *
  have eX : Ext w X := Below.trans HX1.out (HB.out.mono (by omega))
  by_cases hlt : i < n
  ·have hii : (i : Int) < (n : Int) := by omega
   obtain rfl := Ha.out (by omega)
   obtain ⟨k0, k1⟩ := Hr.out i hlt
   have x0 := eX.cell k0
   have x1 := eX.cell k1
   have dA := (Ext.refl X).alloc (.cells #[.string ⟨#[48]⟩, .string ⟨#[49]⟩] 63)
   have hOn := two_alloc X 63 (.string ⟨#[48]⟩) (.string ⟨#[49]⟩)
   have z1 := hOn.cell (j := 1) (by simp)
   simp only [List.getElem_cons_zero, List.getElem_cons_succ] at z1
   have y2 := dA.cell (HT.out.cell (j := 2) (by simp))
   simp only [List.getElem_cons_zero, List.getElem_cons_succ] at y2
   have hl := Lib.hid (hlc.out _ (eX.trans dA))
   clear hlt k0 k1 hOn
   go_wp2_with fail
   refine hl.out.mono ?_
   rintro e X2 ⟨rfl, hE2⟩
   have d2 := dA.trans hE2
   have HT2 := HT.out.ext d2
   have q2 := HT2.cell (j := 2) (by simp)
   simp only [List.getElem_cons_zero, List.getElem_cons_succ] at q2
   have f2 := HT2.frozen 2
   obtain ⟨h3, g3⟩ := OwnV.set HT2 2 (.string ⟨#[49]⟩)
   have H3 := Lib.hid h3
   have hs2 := d2.size
   have hs1 := HB.out.size
   have B3 := Lib.hid (Below.grown (HB.out.trans (Below.mono d2 (by rw [← HVs.out]; exact hs1))) g3 (by have := HVs.out; omega) (fun q hq => by injection hq with hq; omega))
   clear h3 g3 hl dA hE2 d2 HT2 x0 x1 z1 y2 hs1 hs2 HT HB
   go_wp2_with fail
   go_roundw
   case rel => exact ⟨i + 1, by omega, by go_num, H3, B3⟩
   case measure => simp [intOf] <;> omega
  ·obtain rfl : i = n := by omega
   have hii : ¬ (i : Int) < (i : Int) := by omega
   clear hlt eX
   go_wp2_with fail
   go_loopw [29] (fun iv wr => ∃ j : Nat, j ≤ i ∧ iv = .int .i64 j ∧ Ext X wr) (fun iv _ => i - (intOf iv).toNat)
   case atStart => exact ⟨0, by omega, by go_num, Ext.refl _⟩
   case round =>
    obtain ⟨j, hj, rfl, hE⟩ := hrel
    generalize wr = Y at *
    have HBY := Lib.hid (HB.out.trans (Below.mono hE (by rw [← HVs.out]; exact HB.out.size)))
    have eY : Ext w Y := Below.trans HX1.out (HBY.out.mono (by omega))
    by_cases hlt : j < i
    ·have hji : (j : Int) < (i : Int) := by omega
     obtain rfl := Ha.out (by omega)
     obtain ⟨k0, k1⟩ := Hr.out j hlt
     have x0 := eY.cell k0
     have x1 := eY.cell k1
     have dA := hE.alloc (.cells #[.string ⟨#[48]⟩, .string ⟨#[49]⟩] 63)
     have hOn := two_alloc Y 63 (.string ⟨#[48]⟩) (.string ⟨#[49]⟩)
     have z0 := hOn.cell (j := 0) (by simp)
     simp only [List.getElem_cons_zero] at z0
     clear hlt k0 k1 hOn
     go_wp2_with fail
     go_roundw
     case rel => exact ⟨j + 1, by omega, by go_num, dA⟩
     case measure => simp [intOf] <;> omega
    ·obtain rfl : j = i := by omega
     have hji : ¬ (j : Int) < (j : Int) := by omega
     have HTY := HT.out.ext hE
     have t0 := HTY.cell (j := 0) (by simp)
     have t1 := HTY.cell (j := 1) (by simp)
     have t2 := HTY.cell (j := 2) (by simp)
     simp only [List.getElem_cons_zero, List.getElem_cons_succ] at t0 t1 t2
     have HRY := HR.out.below HBY.out (by omega)
     have r0 := HRY.cell (j := 0) (by simp)
     have r1 := HRY.cell (j := 1) (by simp)
     have r2 := HRY.cell (j := 2) (by simp)
     simp only [List.getElem_cons_zero, List.getElem_cons_succ] at r0 r1 r2
     have f0 := HRY.frozen 0
     have f1 := HRY.frozen 1
     have f2 := HRY.frozen 2
     obtain ⟨h4, e4, _⟩ := set3 eY (Nat.le_refl _) HRY (.slice none 0 0) (.slice none 0 0) (.string ⟨#[49]⟩)
     have s0 := h4.cell (j := 0) (by simp)
     have s1 := h4.cell (j := 1) (by simp)
     have s2 := h4.cell (j := 2) (by simp)
     simp only [List.getElem_cons_zero, List.getElem_cons_succ] at s0 s1 s2
     have E4 := Lib.hid e4
     clear h4 e4 HTY HRY
     go_wp2_with fail
     refine bodyPost_ret (v := .agg #[.slice none 0 0, .slice none 0 0, .string ⟨#[49]⟩]) (by simp [results, Tryz.results69, go_sem, s0, s1, s2]) rfl ⟨rfl, E4.out⟩
set_option maxHeartbeats 4000000 in
theorem signZ_any {w : World} {d : ByteArray} :
  Calls Tryz.prog 70 #[.agg #[.slice none 0 0, .slice none 0 0, .string d]] w fun e w' => e = .returned (.int .i64 0) ∧ Ext w w' := by
 have hX := (Ext.refl w).alloc (.cells #[.slice none 0 0, .slice none 0 0, .string d] 122)
 have x0 : (w.alloc (.cells #[.slice none 0 0, .slice none 0 0, .string d] 122)).cell? ⟨w.heap.size, 0, none⟩ = some (.slice none 0 0) := by go_simp
 go_enter Tryz.func70, Tryz.ntmps70
 go_wp2_with fail
 refine wp_scope_straight ?_
 go_wp2_with fail
 simp only [Exit.noGoto]
 go_ret
 exact ⟨rfl, hX⟩
theorem shQ_zeros {n : Nat} {l : List Rat} (hl : l = List.replicate n 0) : ShQ l := fun r hr => by
 rw [hl] at hr
 obtain rfl := (List.mem_replicate.1 hr).2
 obtain ⟨h1, h2⟩ := NdQ.zero (E := 30) (by omega)
 exact ⟨h1, h2⟩
set_option maxHeartbeats 4000000 in
theorem szSignZ_any {w : World} {pa : Option Addr} {n cp : Nat} {v : Value} (hpc : ∀ W, Ext w W → Calls Tryz.prog 50 #[.slice pa n cp] W fun e w' => e = .returned (.int .i64 0) ∧ Ext W w') {l : List Rat} (hs : SzR w v l) (hl : l = List.replicate n 0) (hn : n ≤ 1000) (hL : Laid w) :
  Calls Tryz.prog 19 #[.slice pa n cp, v] w fun e w' => e = .returned (.tuple #[.int .i64 0, .int .i64 0]) ∧ Ext w w' := by
 have hsh : ShQ l := shQ_zeros hl
 have h1 := Lib.hid (szCheck_all hpc hs (by rw [hl]; simp) (shQ_nd hsh (by omega)) (by omega) hL)
 rw [szE_sh hsh] at h1
 have h2 := Lib.hid (fun W (hW : Ext w W) => termsZ_any (vp := .slice pa n cp) (by rw [← hl]; exact hs.ext hW) hn (hL.ext hW))
 obtain ⟨sa, gb, go, cap, rfl, hc, ha, hr⟩ := hs
 clear hc ha hr hL hpc hsh hl
 go_enter Tryz.func19, Tryz.ntmps19
 go_wp2_with fail
 refine h1.out.mono ?_
 rintro e X1 ⟨rfl, hE1⟩
 go_wp2_with fail
 refine (h2.out _ hE1).mono ?_
 rintro e X2 ⟨rfl, hE2⟩
 go_wp2_with fail
 refine signZ_any.mono ?_
 rintro e X3 ⟨rfl, hE3⟩
 go_wp2_with fail
 go_ret2
 exact ⟨rfl, (hE1.trans hE2).trans hE3⟩
theorem lap_sum {x v : List Int} (hx : ∀ z ∈ x, z.natAbs ≤ 18) (hv : ∀ z ∈ v, z.natAbs ≤ 1000000) : ∀ k, (sumZ (fun i => x.getD i 0 * v.getD i 0) k).natAbs ≤ k * 18000000
 | 0 => by simp [sumZ]
 | k + 1 => by
  have h1 := lap_sum hx hv k
  have h2 : (x.getD k 0 * v.getD k 0).natAbs ≤ 18000000 := by
   rw [Int.natAbs_mul]
   have a1 : (x.getD k 0).natAbs ≤ 18 := by
    rw [List.getD_eq_getElem?_getD]
    rcases Nat.lt_or_ge k x.length with h | h
    ·rw [List.getElem?_eq_getElem h]; exact hx _ (List.getElem_mem h)
    ·rw [List.getElem?_eq_none h]; simp
   have a2 : (v.getD k 0).natAbs ≤ 1000000 := by
    rw [List.getD_eq_getElem?_getD]
    rcases Nat.lt_or_ge k v.length with h | h
    ·rw [List.getElem?_eq_getElem h]; exact hv _ (List.getElem_mem h)
    ·rw [List.getElem?_eq_none h]; simp
   exact Nat.le_trans (Nat.mul_le_mul a1 a2) (by decide)
  rw [sumZ]; omega
theorem tuE_small {P : List Int} {C M : Mx} {x : List Int} (h : TmOK P C M) (hl : x.length = P.length) (hx : ∀ z ∈ x, z.natAbs ≤ 18) : tuE P.length M x = 0 := by
 unfold tuE
 have h1 : mzE P.length x = 0 := by
  unfold mzE
  rw [if_pos hl, if_pos]
  unfold mzS
  rw [List.all_eq_true]
  intro z hz
  have := hx z hz
  simp
  omega
 have h2 : smallB (tmpL M x) = true := by
  rw [smallB_iff]
  intro z hz
  obtain ⟨v, hv, rfl⟩ := List.mem_map.1 hz
  have h3 := lap_sum hx (h.bM v hv) x.length
  have h4 := h.p4
  have h5 : x.length * 18000000 ≤ 4 * 18000000 := Nat.mul_le_mul_right _ (by omega)
  unfold tmpE
  omega
 rw [if_pos h1, if_pos h2]
theorem tmp_comma {P : List Int} {C M : Mx} (h : TmOK P C M) {c : List Int} (hc : c ∈ C) : ∀ v ∈ M, tmpE c v = 0 := fun v hv => by
 obtain ⟨psC, hIC⟩ := h.kC.1
 have hl : c.length = P.length := hIC.rect c hc
 have := h.kM.dot (v := vr c) (y := vr v) (List.mem_map.2 ⟨c, hc, rfl⟩) (.mem (List.mem_map.2 ⟨v, hv, rfl⟩))
 unfold tmpE
 rw [hl]
 exact this
theorem tuE_comma {P : List Int} {C M : Mx} (h : TmOK P C M) {c : List Int} (hc : c ∈ C) : tuE P.length M c = 0 ∨ tuE P.length M c = 4 := by
 obtain ⟨psC, hIC⟩ := h.kC.1
 have hl : c.length = P.length := hIC.rect c hc
 have h2 : smallB (tmpL M c) = true := by
  rw [smallB_iff]
  intro z hz
  obtain ⟨v, hv, rfl⟩ := List.mem_map.1 hz
  rw [tmp_comma h hc v hv]; omega
 unfold tuE mzE
 rw [if_pos hl, if_pos h2]
 by_cases hs : mzS c = true
 ·left; simp [hs]
 ·right; simp [hs]
theorem mzA_18 {x y : List Int} (hx : ∀ z ∈ x, -9 ≤ z ∧ z ≤ 9) (hy : ∀ z ∈ y, -9 ≤ z ∧ z ≤ 9) : ∀ z ∈ mzA x y, z.natAbs ≤ 18 := fun z hz => by
 unfold mzA at hz
 obtain ⟨i, _, rfl⟩ := List.mem_map.1 hz
 have h1 : -9 ≤ x.getD i 0 ∧ x.getD i 0 ≤ 9 := by
  rw [List.getD_eq_getElem?_getD]
  rcases Nat.lt_or_ge i x.length with h | h
  ·rw [List.getElem?_eq_getElem h]; exact hx _ (List.getElem_mem h)
  ·rw [List.getElem?_eq_none h]; simp
 have h2 : -9 ≤ y.getD i 0 ∧ y.getD i 0 ≤ 9 := by
  rw [List.getD_eq_getElem?_getD]
  rcases Nat.lt_or_ge i y.length with h | h
  ·rw [List.getElem?_eq_getElem h]; exact hy _ (List.getElem_mem h)
  ·rw [List.getElem?_eq_none h]; simp
 omega
set_option maxHeartbeats 4000000 in
theorem eqQ_any {w : World} {va vb : Value} {la lb : List Rat} (ha : SzR w va la) (hb : SzR w vb lb) (hl : la.length ≤ 1000000) :
  Calls Tryz.prog 68 #[va, vb] w fun e w' => e = .returned (.bool (decide (la = lb))) ∧ Ext w w' := by
 obtain ⟨sa, ga, oa, ca, rfl, hca, haa, hra⟩ := ha
 obtain ⟨sb, gb, ob, cb, rfl, hcb, hbb, hrb⟩ := hb
 have Haa := Lib.hid haa
 have Hbb := Lib.hid hbb
 have Hra := Lib.hid hra
 have Hrb := Lib.hid hrb
 have Hno := Lib.hid (fun (h : la ≠ lb) => decide_eq_false h)
 have Hyes := Lib.hid (fun (hl : la.length = lb.length) (h : ∀ i (h : i < la.length) (h' : i < lb.length), la[i] = lb[i]) => decide_eq_true (show la = lb from List.ext_getElem hl h))
 obtain ⟨n, hn⟩ : ∃ n, n = la.length := ⟨_, rfl⟩
 obtain ⟨m, hm⟩ : ∃ m, m = lb.length := ⟨_, rfl⟩
 have Hn := Lib.hid hn
 have Hm := Lib.hid hm
 rw [← hn] at hl ⊢
 rw [← hm]
 generalize decide (la = lb) = q at *
 clear haa hbb hra hrb hn hm hca hcb
 by_cases hnm : n = m
 ·subst hnm
  go_enter Tryz.func68, Tryz.ntmps68
  go_wp2_with fail
  go_loopw [13] (fun iv wr => ∃ i : Nat, i ≤ n ∧ iv = .int .i64 i ∧ Hid (∀ t (h : t < la.length) (h' : t < lb.length), t < i → la[t] = lb[t]) ∧ Ext w wr) (fun iv _ => n - (intOf iv).toNat)
  case atStart => exact ⟨0, by omega, by go_num, Lib.hid (fun t _ _ h => by omega), Ext.refl _⟩
  case round =>
   obtain ⟨i, hi, rfl, HA, hE⟩ := hrel
   generalize wr = X at *
   by_cases hlt : i < n
   ·have hii : (i : Int) < (n : Int) := by omega
    have hia : i < la.length := by rw [← Hn.out]; exact hlt
    have hib : i < lb.length := by rw [← Hm.out]; exact hlt
    obtain rfl := Haa.out (by omega)
    obtain rfl := Hbb.out (by omega)
    obtain ⟨a0, a1⟩ := Hra.out i hia
    obtain ⟨b0, b1⟩ := Hrb.out i hib
    replace a0 := hE.cell a0
    replace a1 := hE.cell a1
    replace b0 := hE.cell b0
    replace b1 := hE.cell b1
    have Hq := Lib.hid (fun (h : la[i] ≠ lb[i]) => Hno.out (fun h2 => h (by simp only [h2])))
    have HA' := Lib.hid (fun (h : la[i] = lb[i]) t (ht : t < la.length) (ht' : t < lb.length) (hti : t < i + 1) => show la[t] = lb[t] by
     by_cases e : t = i
     ·subst e; exact h
     ·exact HA.out t ht ht' (by omega))
    obtain ⟨x, hx⟩ : ∃ x, x = la[i] := ⟨_, rfl⟩
    obtain ⟨y, hy⟩ : ∃ y, y = lb[i] := ⟨_, rfl⟩
    rw [← hx] at a0 a1 Hq HA'
    rw [← hy] at b0 b1 Hq HA'
    clear hx hy HA hlt hia hib
    have hqd : ∀ u v : Int, (Lib.itoa u == Lib.itoa v) = decide (u = v) := fun u v => by
     by_cases h : u = v
     ·subst h; simp
     ·rw [decide_eq_false h, beq_eq_false_iff_ne]; exact fun hc => h (itoa_inj hc)
    have k1 := hqd x.num y.num
    have k2 := hqd x.den y.den
    by_cases hxy : x = y
    ·subst hxy
     have HA := Lib.hid (HA'.out rfl)
     clear HA' Hq k1 k2 hqd
     go_wp2_with fail
     go_quiet (fail)
     have hE := hE.drewN nq
     go_wp2_with fail
     go_roundw
     case rel => exact ⟨i + 1, by omega, by go_num, HA, hE⟩
     case measure => simp [intOf] <;> omega
    ·have Hq0 := Lib.hid (Hq.out hxy)
     have hd : x.num ≠ y.num ∨ (x.num = y.num ∧ (x.den : Int) ≠ (y.den : Int)) := by
      by_cases h1 : x.num = y.num
      ·exact .inr ⟨h1, fun h2 => hxy (Rat.ext h1 (by omega))⟩
      ·exact .inl h1
     clear HA' Hq hxy hqd
     obtain ⟨la', hla⟩ : ∃ l, l = Lib.itoa x.num := ⟨_, rfl⟩
     obtain ⟨lb', hlb⟩ : ∃ l, l = Lib.itoa y.num := ⟨_, rfl⟩
     obtain ⟨da', hda⟩ : ∃ l, l = Lib.itoa x.den := ⟨_, rfl⟩
     obtain ⟨db', hdb⟩ : ∃ l, l = Lib.itoa y.den := ⟨_, rfl⟩
     unfold I S at a0 a1 b0 b1
     rw [← hla, ← hlb] at k1
     rw [← hda, ← hdb] at k2
     rw [← hla] at a0
     rw [← hda] at a1
     rw [← hlb] at b0
     rw [← hdb] at b1
     rcases hd with hd | ⟨hd, hd2⟩
     ·rw [decide_eq_false hd] at k1
      have k3 : (la' != lb') = true := by simp [bne, k1]
      clear hd k2 hla hlb hda hdb
      go_wp2_with fail
      go_quiet (fail)
      have hE := hE.drewN nq
      go_wp2_with fail
      go_ret
      exact ⟨ret_val (congrArg Value.bool Hq0.out.symm), hE⟩
     ·rw [decide_eq_false hd2] at k2
      have k3 : (da' != db') = true := by simp [bne, k2]
      rw [decide_eq_true hd] at k1
      obtain rfl : la' = lb' := by simpa using k1
      clear hd k1 hd2 hla hlb hda hdb
      go_wp2_with fail
      go_quiet (fail)
      have hE := hE.drewN nq
      go_wp2_with fail
      go_ret
      exact ⟨ret_val (congrArg Value.bool Hq0.out.symm), hE⟩
   ·obtain rfl : i = n := by omega
    have hii : ¬ (i : Int) < (i : Int) := by omega
    have Hq := Lib.hid (Hyes.out (by rw [← Hn.out, ← Hm.out]) (fun t h h' => HA.out t h h' (by rw [Hn.out]; exact h)))
    clear hlt HA
    go_wp2_with fail
    go_ret
    exact ⟨ret_val (congrArg Value.bool Hq.out.symm), hE⟩
 ·have h1 : ¬ ((n : Int) = (m : Int)) := by omega
  have h2 : ((n : Int) == (m : Int)) = false := beq_eq_false_iff_ne.2 h1
  have h3 : ((n : Int) != (m : Int)) = true := by simp [bne, h2]
  have Hq := Lib.hid (Hno.out (fun h => hnm (by rw [Hn.out, Hm.out, h])))
  clear hnm
  go_enter Tryz.func68, Tryz.ntmps68
  go_wp2_with fail
  go_ret
  exact ⟨ret_val (congrArg Value.bool Hq.out.symm), Ext.refl _⟩
end Go.Proofs.YtedlgnoiojcjaaaGreatDoor
namespace Go.Proofs.YtedlgnoiojcjaaaGreatDoor
open Go.RowKit Go.Sort
open Hnf (V Span)
def unitL (r i : Nat) : List Int := (List.replicate r 0).set i 1
@[simp] theorem unitL_length (r i : Nat) : (unitL r i).length = r := by simp [unitL]
theorem unitL_getD {r i : Nat} (hi : i < r) (k : Nat) : (unitL r i).getD k 0 = if k = i then 1 else 0 := by
 unfold unitL
 rw [List.getD_eq_getElem?_getD, List.getElem?_set]
 by_cases h : k = i
 ·subst h
  simp [hi]
 ·rw [if_neg (fun e => h e.symm), if_neg h, List.getElem?_replicate]
  split <;> rfl
end Go.Proofs.YtedlgnoiojcjaaaGreatDoor
namespace Go.Proofs.YtedlgnoiojcjaaaGreatDoor
open Go.RowKit Go.Sort
set_option maxHeartbeats 1000000 in
theorem rowZero_ok {w : World} {n : Nat} (hn : n ≤ 64) :
  Calls Tryz.prog 150 #[.int .i64 n] w fun e w' => ∃ g, e = .returned (.tuple #[slv g n n, .int .i64 0]) ∧ OwnV 3 w.heap.size w' g n (is (List.replicate n 0)) ∧ Ext w w' := by
 obtain ⟨i0, hi, hz0, hz1, hz2⟩ := info_parts Tryz.infoInt
 have h1 : ¬ (n : Int) < 0 := by omega
 have h2 : ¬ (n : Int) > 64 := by omega
 have h3 : ¬ (64 : Int) < (n : Int) := by omega
 go_enter Tryz.func150, Tryz.ntmps150
 go_wp2_with (at_make; refine wpList_make_full _ rfl _ _ 46 rfl w.heap.size 3 i0 (.int .i64 0) 1 Tryz.underlying46 hi hz0 hz1 .i64 .i64 _ _ n rfl rfl (by omega) (by omega) (by rw [hz2]; omega) (by unfold maxLen; omega) (Nat.le_refl _) ?_; intro w1 hown1 hgrow1)
 have hE1 := ext_grown hgrow1
 have hb0 : OwnV 3 w.heap.size w1 w.heap.size n (is (List.replicate n 0)) := row_ownV (zero_row hown1) (by simp)
 have Hb := Lib.hid hb0
 clear hb0 hown1 hgrow1
 go_wp2_with fail
 go_ret2
 exact ⟨_, rfl, Hb.out, hE1⟩
set_option maxHeartbeats 1000000 in
theorem rowUnit_ok {w : World} {n i : Nat} (hn : n ≤ 64) (hi : i < n) :
  Calls Tryz.prog 88 #[.int .i64 n, .int .i64 i] w fun e w' => ∃ g, e = .returned (.tuple #[slv g n n, .int .i64 0]) ∧ OwnV 3 w.heap.size w' g n (is (unitL n i)) ∧ Ext w w' := by
 have hz := Lib.hid (rowZero_ok (w := w) hn)
 have h1 : ¬ (i : Int) < 0 := by omega
 have h2 : ¬ (i : Int) ≥ (n : Int) := by omega
 have h3 : ¬ (n : Int) ≤ (i : Int) := by omega
 have h4 : (i : Int) < (n : Int) := by omega
 go_enter Tryz.func88, Tryz.ntmps88
 go_wp2_with fail
 refine hz.out.mono ?_
 rintro e w1 ⟨g, rfl, hO, hE1⟩
 have hcl := hO.cell (j := i) (by simpa using hi)
 have hfz := hO.frozen i
 obtain ⟨hO2, hG⟩ := hO.set i (.int .i64 1)
 rw [← is_set] at hO2
 have hE2 := ext_trans_grown hE1 hG hO.lt.1
 have Hq := Lib.hid (And.intro hO2 hE2)
 clear hz hO hO2 hE2 hG
 go_wp2_with fail
 go_ret2
 exact ⟨g, rfl, Hq.out.1, Hq.out.2⟩
end Go.Proofs.YtedlgnoiojcjaaaGreatDoor
