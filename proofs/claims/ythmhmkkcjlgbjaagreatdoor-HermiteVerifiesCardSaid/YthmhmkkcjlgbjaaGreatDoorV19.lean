/- Part 19 of the proof of the claim: contracts of the functions that it reaches, and plain laws; no condition. -/
import Derived.Test.YthmhmkkcjlgbjaaGreatDoorV18
import Derived.Test.YthmhmkkcjlgbjaaGreatDoorV11
/- schismalaw07: Line, Make -/
namespace Go.Proofs.YthmhmkkcjlgbjaaGreatDoor
open Go.RowKit Go.Sort
/-- The description of a matrix. -/
structure GridV (cs : Array Value) (R C : Nat) : Prop where
  sz : cs.size = 18
  c0 : cs[0]? = some (.int .u8 R)
  c1 : cs[1]? = some (.int .u8 C)
  ent : ∀ j, j < 16 → ∃ z : Int, cs[2 + j]? = some (.int .i8 z) ∧ -128 ≤ z ∧ z ≤ 127
  r8 : R < 256
  c8 : C < 256
theorem grid_cell {w : World} {cs : Array Value} {T : TypeId} {j : Nat} {x : Value} (h : cs[j]? = some x) : (w.alloc (.cells cs T)).cell? ⟨w.heap.size, j, none⟩ = some x := by
  have e : (w.alloc (.cells cs T)).cell? ⟨w.heap.size, j, none⟩ = cs[j]? := by go_simp
  rw [e, h]
theorem line_idx {i k : Nat} (hi : i < 4) (hk : k < 4) : 4 * i + k < 16 := by omega
set_option maxRecDepth 100000 in
set_option maxHeartbeats 1000000 in
theorem Line_any {w : World} {cs : Array Value} {R C i : Nat} (hG : GridV cs R C) (hi : i < 4) :
    Calls Tryz.prog 44 #[.agg cs, .int .i64 i] w fun e w' => ∃ v r, e = .returned v ∧ RowV w.heap.size w' v r ∧ r.length = 1 + C % 4 ∧ (∀ z ∈ r, -20 ≤ z ∧ z ≤ 20) ∧ Ext w w' := by
  have h0 := grid_cell (w := w) (T := 25) hG.c0
  have h1 := grid_cell (w := w) (T := 25) hG.c1
  have hent := Lib.hid (fun j hj => by obtain ⟨z, hz, hb⟩ := hG.ent j hj; exact (⟨z, grid_cell (w := w) (T := 25) hz, hb⟩ : ∃ z : Int, (w.alloc (.cells cs 25)).cell? ⟨w.heap.size, 2 + j, none⟩ = some (.int .i8 z) ∧ -128 ≤ z ∧ z ≤ 127))
  have hC := hG.c8
  have him : (i : Int) % 4 = (i : Int) := Int.emod_eq_of_lt (by omega) (by omega)
  have hit : (i : Int).tmod 4 = (i : Int) := by rw [Int.tmod_eq_emod_of_nonneg (by omega)]; exact him
  have hEw := (Ext.refl w).alloc (.cells cs 25)
  have hsz : w.heap.size < (w.alloc (.cells cs 25)).heap.size := by simp
  clear hG
  obtain ⟨m, hm⟩ : ∃ m, m = C % 4 := ⟨_, rfl⟩
  have hmI : (C : Int) % 4 = (m : Int) := by omega
  have hm4 : m < 4 := by omega
  rw [← hm]
  clear hm
  go_enter Tryz.func44, Tryz.ntmps44
  go_wp2_with fail
  generalize (w.alloc (.cells cs 25)) = V at *
  try simp only [hmI]
  go_loopw [6, 7] (fun out idx wr => ∃ (k : Nat) (r : List Int), k ≤ 1 + m ∧ idx = .int .i64 k ∧ Hid (RowV V.heap.size wr out r) ∧ Hid (r.length = k) ∧ Hid (∀ z ∈ r, -20 ≤ z ∧ z ≤ 20) ∧ Ext V wr) (fun _ idx _ => 1 + m - (intOf idx).toNat)
  case atStart => exact ⟨0, [], by omega, by go_num, Lib.hid (RowV.nil _ _), Lib.hid rfl, Lib.hid (fun z hz => by cases hz), Ext.refl _⟩
  case round =>
    obtain ⟨k, r, hk, rfl, hO, hl, hb, hE⟩ := hrel
    generalize wr = X at *
    by_cases hlt : k < 1 + m
    · have hki : (k : Int) < 1 + (m : Int) := by omega
      obtain ⟨z, hz, hzb⟩ := hent.out (4 * i + k) (line_idx hi (by omega))
      have hz' := hE.cell hz
      have hsX := hE.size
      have hq : -20 ≤ z.tmod 21 ∧ z.tmod 21 ≤ 20 := by
        have h1 := Int.tmod_lt_of_pos z (b := 21) (by omega)
        have h2 := Int.lt_tmod_of_pos z (b := 21) (by omega)
        omega
      have hkl : r.length ≤ 1000000000 := by rw [hl.out]; omega
      have Hl4 := Lib.hid hkl
      clear hkl
      have hrk := hl.out
      go_wp2_with (at_builtin; refine app_int rfl _ _ 35 Tryz.underlying35 rfl rfl (hO.out.ext ((Ext.refl _).alloc _)) rfl (b := X.heap.size) (z := z.tmod 21) (by go_simp) Hl4.out (by simp; omega) ?_; intro gg cap2 w8 hO8 hB8 hG8; rw [hrk] at hO8 ⊢)
      have hE8 : Ext V w8 := Below.trans (hE.alloc (.cells #[.int .i64 (z.tmod 21)] 3)) hB8
      have hO9 := Lib.hid hO8
      clear hG8 hB8 hO8
      go_wp2_with fail
      go_roundw
      case rel => exact ⟨k + 1, r ++ [z.tmod 21], by omega, by go_num, hO9, Lib.hid (by rw [List.length_append, hl.out]; rfl), Lib.hid (fun y hy => by
        rcases List.mem_append.1 hy with h | h
        · exact hb.out y h
        · rw [List.mem_singleton.1 h]; exact hq), hE8⟩
      case measure => simp [intOf] <;> omega
    · have hke : k = 1 + m := by omega
      go_wp2_with fail
      go_ret
      exact ⟨_, r, rfl, hO.out.mono (by omega), by rw [hl.out, hke], hb.out, hEw.trans hE⟩
theorem GridV.cells {cs : Array Value} {R C : Nat} (h : GridV cs R C) : ∃ z0 z1 z2 z3 z4 z5 z6 z7 z8 z9 z10 z11 z12 z13 z14 z15 : Int, cs = #[.int .u8 R, .int .u8 C, .int .i8 z0, .int .i8 z1, .int .i8 z2, .int .i8 z3, .int .i8 z4, .int .i8 z5, .int .i8 z6, .int .i8 z7, .int .i8 z8, .int .i8 z9, .int .i8 z10, .int .i8 z11, .int .i8 z12, .int .i8 z13, .int .i8 z14, .int .i8 z15] := by
  obtain ⟨z0, g0, _⟩ := h.ent 0 (by omega)
  obtain ⟨z1, g1, _⟩ := h.ent 1 (by omega)
  obtain ⟨z2, g2, _⟩ := h.ent 2 (by omega)
  obtain ⟨z3, g3, _⟩ := h.ent 3 (by omega)
  obtain ⟨z4, g4, _⟩ := h.ent 4 (by omega)
  obtain ⟨z5, g5, _⟩ := h.ent 5 (by omega)
  obtain ⟨z6, g6, _⟩ := h.ent 6 (by omega)
  obtain ⟨z7, g7, _⟩ := h.ent 7 (by omega)
  obtain ⟨z8, g8, _⟩ := h.ent 8 (by omega)
  obtain ⟨z9, g9, _⟩ := h.ent 9 (by omega)
  obtain ⟨z10, g10, _⟩ := h.ent 10 (by omega)
  obtain ⟨z11, g11, _⟩ := h.ent 11 (by omega)
  obtain ⟨z12, g12, _⟩ := h.ent 12 (by omega)
  obtain ⟨z13, g13, _⟩ := h.ent 13 (by omega)
  obtain ⟨z14, g14, _⟩ := h.ent 14 (by omega)
  obtain ⟨z15, g15, _⟩ := h.ent 15 (by omega)
  refine ⟨z0, z1, z2, z3, z4, z5, z6, z7, z8, z9, z10, z11, z12, z13, z14, z15, ?_⟩
  apply Array.ext_getElem?
  intro i
  match i with
  | 0 => simpa using h.c0
  | 1 => simpa using h.c1
  | 2 => simpa using g0
  | 3 => simpa using g1
  | 4 => simpa using g2
  | 5 => simpa using g3
  | 6 => simpa using g4
  | 7 => simpa using g5
  | 8 => simpa using g6
  | 9 => simpa using g7
  | 10 => simpa using g8
  | 11 => simpa using g9
  | 12 => simpa using g10
  | 13 => simpa using g11
  | 14 => simpa using g12
  | 15 => simpa using g13
  | 16 => simpa using g14
  | 17 => simpa using g15
  | i + 18 => rw [Array.getElem?_eq_none (by rw [h.sz]; omega), Array.getElem?_eq_none (by simp)]
/-- What Make returns. -/
def GridM (M : Mx) : Prop := M.length ≤ 4 ∧ ∃ n, 1 ≤ n ∧ n ≤ 4 ∧ Rect n M ∧ ∀ r ∈ M, ∀ z ∈ r, -20 ≤ z ∧ z ≤ 20
set_option maxRecDepth 100000 in
set_option maxHeartbeats 1000000 in
theorem Make_any {w : World} {cs : Array Value} {R C : Nat} (hG : GridV cs R C) :
    Calls Tryz.prog 11 #[.agg cs] w fun e w' => ∃ v M, e = .returned v ∧ MatO w.heap.size w' v M ∧ GridM M ∧ Ext w w' := by
  have h0 := grid_cell (w := w) (T := 25) hG.c0
  have hR := hG.r8
  have HG := Lib.hid hG
  have hEw := (Ext.refl w).alloc (.cells cs 25)
  have hsz : w.heap.size < (w.alloc (.cells cs 25)).heap.size := by simp
  obtain ⟨m, hm⟩ : ∃ m, m = R % 5 := ⟨_, rfl⟩
  have hmI : (R : Int) % 5 = (m : Int) := by omega
  have hm4 : m < 5 := by omega
  obtain ⟨z0, z1, z2, z3, z4, z5, z6, z7, z8, z9, z10, z11, z12, z13, z14, z15, hcs⟩ := hG.cells
  have hcell := Lib.hid (fun (j : Nat) (x : Value) (h : cs[j]? = some x) => grid_cell (w := w) (T := 25) h)
  have Hcs := Lib.hid hcs
  clear hm hG hcs
  go_enter Tryz.func11, Tryz.ntmps11
  go_wp2_with fail
  generalize (w.alloc (.cells cs 25)) = V at *
  go_loopw [3, 4] (fun out idx wr => ∃ (k : Nat) (M : Mx), k ≤ m ∧ idx = .int .i64 k ∧ Hid (MatO V.heap.size wr out M) ∧ Hid (M.length = k) ∧ Hid (Rect (1 + C % 4) M) ∧ Hid (∀ r ∈ M, ∀ z ∈ r, -20 ≤ z ∧ z ≤ 20) ∧ Ext V wr) (fun _ idx _ => m - (intOf idx).toNat)
  case atStart => exact ⟨0, [], by omega, by go_num, Lib.hid (MatO.nil _ _), Lib.hid rfl, Lib.hid (fun z hz => by cases hz), Lib.hid (fun z hz => by cases hz), Ext.refl _⟩
  case round =>
    obtain ⟨k, M, hk, rfl, hO, hl, hR1, hb, hE⟩ := hrel
    generalize wr = X at *
    have h0X := hE.cell h0
    by_cases hlt : k < m
    · have hki : (k : Int) < (m : Int) := by omega
      have hln := Lib.hid (Line_any (w := X) (i := k) HG.out (by omega))
      rw [Hcs.out] at hln
      have c0 := h0X
      have c1 := hE.cell (hcell.out 1 (.int .u8 C) (by rw [Hcs.out]; rfl))
      have c2 := hE.cell (hcell.out 2 (.int .i8 z0) (by rw [Hcs.out]; rfl))
      have c3 := hE.cell (hcell.out 3 (.int .i8 z1) (by rw [Hcs.out]; rfl))
      have c4 := hE.cell (hcell.out 4 (.int .i8 z2) (by rw [Hcs.out]; rfl))
      have c5 := hE.cell (hcell.out 5 (.int .i8 z3) (by rw [Hcs.out]; rfl))
      have c6 := hE.cell (hcell.out 6 (.int .i8 z4) (by rw [Hcs.out]; rfl))
      have c7 := hE.cell (hcell.out 7 (.int .i8 z5) (by rw [Hcs.out]; rfl))
      have c8 := hE.cell (hcell.out 8 (.int .i8 z6) (by rw [Hcs.out]; rfl))
      have c9 := hE.cell (hcell.out 9 (.int .i8 z7) (by rw [Hcs.out]; rfl))
      have c10 := hE.cell (hcell.out 10 (.int .i8 z8) (by rw [Hcs.out]; rfl))
      have c11 := hE.cell (hcell.out 11 (.int .i8 z9) (by rw [Hcs.out]; rfl))
      have c12 := hE.cell (hcell.out 12 (.int .i8 z10) (by rw [Hcs.out]; rfl))
      have c13 := hE.cell (hcell.out 13 (.int .i8 z11) (by rw [Hcs.out]; rfl))
      have c14 := hE.cell (hcell.out 14 (.int .i8 z12) (by rw [Hcs.out]; rfl))
      have c15 := hE.cell (hcell.out 15 (.int .i8 z13) (by rw [Hcs.out]; rfl))
      have c16 := hE.cell (hcell.out 16 (.int .i8 z14) (by rw [Hcs.out]; rfl))
      have c17 := hE.cell (hcell.out 17 (.int .i8 z15) (by rw [Hcs.out]; rfl))
      go_wp2_with fail
      refine hln.out.mono ?_
      rintro e W ⟨v, r, rfl, hv, hrl, hrb, hW⟩
      have HR2 := Lib.hid ((hv.mono (show V.heap.size ≤ X.heap.size from hE.size)))
      have HO2 := Lib.hid (hO.out.ext hW)
      have hEW := Lib.hid (hE.trans hW)
      have hszW := hEW.out.size
      have Hrl := Lib.hid hrl
      have Hrb := Lib.hid hrb
      have hMk := hl.out
      have HM9 := Lib.hid (show M.length ≤ 1000000000 by rw [hl.out]; omega)
      obtain ⟨sv, bv, cv, rfl⟩ : ∃ a l c, v = .slice a l c := by
        rcases hv.2 with ⟨rfl, _⟩ | ⟨g, cap, cur, rfl, _⟩ <;> exact ⟨_, _, _, rfl⟩
      clear hv hrl hrb hW hln c0 c1 c2 c3 c4 c5 c6 c7 c8 c9 c10 c11 c12 c13 c14 c15 c16 c17
      go_wp2_with (at_builtin; refine app_mat rfl _ _ rfl rfl (HO2.out.ext ((Ext.refl _).alloc _)) rfl (b := W.heap.size) (by go_simp) (HR2.out.ext ((Ext.refl _).alloc _)) HM9.out (by simp; omega) ?_; intro gg cap2 w8 hO8 hB8 hG8; rw [hMk] at hO8 ⊢)
      have hE8 : Ext V w8 := Below.trans (hEW.out.alloc (.cells #[.slice sv bv cv] 35)) hB8
      have hO9 := Lib.hid hO8
      clear hG8 hB8 hO8
      go_wp2_with fail
      go_roundw
      case rel => exact ⟨k + 1, M ++ [r], by omega, by go_num, hO9, Lib.hid (by rw [List.length_append, hl.out]; rfl), Lib.hid (fun y hy => by
        rcases List.mem_append.1 hy with h | h
        · exact hR1.out y h
        · rw [List.mem_singleton.1 h]; exact Hrl.out), Lib.hid (fun y hy => by
        rcases List.mem_append.1 hy with h | h
        · exact hb.out y h
        · rw [List.mem_singleton.1 h]; exact Hrb.out), hE8⟩
      case measure => simp [intOf] <;> omega
    · have hke : k = m := by omega
      go_wp2_with fail
      go_ret
      exact ⟨_, M, rfl, hO.out.mono (by omega), ⟨by rw [hl.out]; omega, 1 + C % 4, by omega, by omega, hR1.out, hb.out⟩, hEw.trans hE⟩
end Go.Proofs.YthmhmkkcjlgbjaaGreatDoor
/- Plain: the numbers of a Hermite normal form are small if those of the matrix are: by minors of at most four rows. -/
namespace Go.Proofs.YthmhmkkcjlgbjaaGreatDoor
open Hnf (V Span Ech Red)
theorem lin_zero {M : List V} {f : V → Int} (h0 : f (fun _ => 0) = 0) (h1 : ∀ v q u, f (Hnf.sub v q u) = f v - q * f u) (h : ∀ r ∈ M, f r = 0) {v : V} (hv : Span M v) : f v = 0 := by
  induction hv with
  | zero => exact h0
  | step q _ hr ih => rw [h1, ih, h _ hr]; simp
/-- A linear form that is not zero on the lattice is not zero at a row. -/
theorem lin_row {M : List V} {f : V → Int} (h0 : f (fun _ => 0) = 0) (h1 : ∀ v q u, f (Hnf.sub v q u) = f v - q * f u) {v : V} (hv : Span M v) (hne : f v ≠ 0) : ∃ r ∈ M, f r ≠ 0 :=
  Classical.byContradiction fun hc => hne (lin_zero h0 h1 (fun r hr => Classical.byContradiction fun h => hc ⟨r, hr, h⟩) hv)
def det2 (x y : V) (p q : Nat) : Int := x p * y q - x q * y p
def det3 (x y z : V) (p q s : Nat) : Int := x p * det2 y z q s - x q * det2 y z p s + x s * det2 y z p q
def det4 (x y z t : V) (p q s u : Nat) : Int := x p * det3 y z t q s u - x q * det3 y z t p s u + x s * det3 y z t p q u - x u * det3 y z t p q s
/-- The sum of multiples. -/
def comb (a : Nat → Int) (w : Nat → V) : Nat → V
  | 0 => fun _ => 0
  | k + 1 => Hnf.sub (comb a w k) (-(a k)) (w k)
theorem comb_span {M : List V} {a : Nat → Int} {w : Nat → V} : ∀ {r : Nat}, (∀ k, k < r → Span M (w k)) → Span M (comb a w r)
  | 0, _ => .zero
  | r + 1, h => (comb_span (r := r) fun k hk => h k (by omega)).sub _ (h r (by omega))
theorem comb_out {a : Nat → Int} {w : Nat → V} {j : Nat} : ∀ {r : Nat}, (∀ k, k < r → w k j = 0) → comb a w r j = 0
  | 0, _ => rfl
  | r + 1, h => by simp only [comb, Hnf.sub]; rw [comb_out (r := r) (fun k hk => h k (by omega)), h r (by omega)]; simp
theorem comb_at {a : Nat → Int} {w : Nat → V} {j s : Nat} {d : Int} : ∀ {r : Nat}, s < r → (∀ k, k < r → w k j = if k = s then d else 0) → comb a w r j = a s * d
  | 0, hs, _ => by omega
  | r + 1, hs, h => by
    simp only [comb, Hnf.sub]
    by_cases e : s = r
    · subst e
      rw [comb_out (r := s) (fun k hk => by rw [h k (by omega), if_neg (by omega)]), h s (by omega), if_pos rfl]; simp [Int.neg_mul]
    · rw [comb_at (r := r) (s := s) (d := d) (by omega) (fun k hk => h k (by omega)), h r (by omega), if_neg (by omega)]; simp
theorem comb_abs {a : Nat → Int} {w : Nat → V} {j A C : Nat} : ∀ {r : Nat}, (∀ k, k < r → (a k).natAbs ≤ A) → (∀ k, k < r → (w k j).natAbs ≤ C) → (comb a w r j).natAbs ≤ r * (A * C)
  | 0, _, _ => by simp [comb]
  | r + 1, h, h' => by
    have ih := comb_abs (r := r) (j := j) (fun k hk => h k (by omega)) (fun k hk => h' k (by omega))
    have h2 : (a r * w r j).natAbs ≤ A * C := by rw [Int.natAbs_mul]; exact Nat.mul_le_mul (h r (by omega)) (h' r (by omega))
    have e : (r + 1) * (A * C) = r * (A * C) + A * C := Nat.succ_mul _ _
    simp only [comb, Hnf.sub, Int.neg_mul]
    omega
/-- Vectors of the lattice that are a multiple d of the units on the pivots. -/
structure Duals (M : List V) (ps : List Nat) (r C : Nat) (d : Int) (w : Nat → V) : Prop where
  ne : d ≠ 0
  span : ∀ k, k < r → Span M (w k)
  at' : ∀ k, k < r → ∀ s, s < r → w k (ps.getD s 0) = if k = s then d else 0
  abs : ∀ k, k < r → ∀ j, (w k j).natAbs ≤ C
theorem wps_mem {ps : List Nat} {F : Mx} (hl : ps.length = F.length) {g : Nat × V} (hg : g ∈ wps ps F) : ∃ i, i < F.length ∧ g = (ps.getD i 0, vr (F.getD i [])) := by
  obtain ⟨x, hx, rfl⟩ := List.mem_map.1 hg
  obtain ⟨i, hi, hxe⟩ := List.getElem_of_mem hx
  have hi' : i < ps.length ∧ i < F.length := by simp at hi; omega
  obtain rfl : x = (ps[i]'hi'.1, F[i]'hi'.2) := by rw [← hxe]; exact List.getElem_zip
  exact ⟨i, hi'.2, by rw [getD_get hi'.1, getD_get hi'.2]⟩
/-- What vanishes on the pivots vanishes. -/
theorem pivots_zero {n : Nat} {ps : List Nat} {F : Mx} (h : IsH n ps F) {v : V} (hv : Span (latM F) v) (hz : ∀ i, i < F.length → v (ps.getD i 0) = 0) : ∀ j, v j = 0 := by
  rcases Hnf.first v with h0 | ⟨j, hj, hz'⟩
  · exact h0
  · exfalso
    rw [← wps_rows h.len] at hv
    obtain ⟨g, hg, e, _⟩ := h.ech.lead hv hj hz'
    obtain ⟨i, hi, rfl⟩ := wps_mem h.len hg
    exact hj (by rw [← e]; exact hz i hi)
theorem pivot_dvd {n : Nat} {ps : List Nat} {F : Mx} (h : IsH n ps F) {v : V} (hv : Span (latM F) v) {k : Nat} {d : Int} (hd : d ≠ 0) (hk : k < F.length) (hz : ∀ s, s < F.length → v (ps.getD s 0) = if k = s then d else 0) : eM F k (ps.getD k 0) ∣ d := by
  rcases Hnf.first v with h0 | ⟨j, hj, hz'⟩
  · exact absurd (h0 (ps.getD k 0)) (by rw [hz k hk, if_pos rfl]; exact hd)
  · rw [← wps_rows h.len] at hv
    obtain ⟨g, hg, e, hdv⟩ := h.ech.lead hv hj hz'
    obtain ⟨i, hi, rfl⟩ := wps_mem h.len hg
    simp only at e hdv
    subst e
    have := hz i hi
    by_cases e : k = i
    · subst e
      rw [if_pos rfl] at this
      rw [this] at hdv
      exact hdv
    · rw [if_neg e] at this; exact absurd this hj
theorem duals_small {n C : Nat} {ps : List Nat} {F : Mx} {d : Int} {w : Nat → V} (h : IsH n ps F) (hD : Duals (latM F) ps F.length C d w) (i : Nat) (hi : i < F.length) (j : Nat) : (eM F i j).natAbs ≤ F.length * C := by
  have hpk : ∀ k, k < F.length → (eM F k (ps.getD k 0)).natAbs ≤ d.natAbs := fun k hk => by
    obtain ⟨c, hc⟩ := pivot_dvd h (hD.span k hk) hD.ne hk (hD.at' k hk)
    have := hD.ne
    have hc0 : c ≠ 0 := by intro e; subst e; simp at hc; exact this hc
    rw [hc, Int.natAbs_mul]
    exact Nat.le_mul_of_pos_right _ (by omega)
  have hik : ∀ k, k < F.length → (eM F i (ps.getD k 0)).natAbs ≤ d.natAbs := fun k hk => by
    have := hpk k hk
    rcases Nat.lt_trichotomy i k with hlt | rfl | hgt
    · have := h.red i k hlt hk; omega
    · exact this
    · rw [h.left i hi _ (h.inc k i hgt hi)]; simp
  have hF : Span (latM F) (vr (F.getD i [])) := .mem (by rw [getD_get hi]; exact List.mem_map.2 ⟨F[i], List.getElem_mem hi, rfl⟩)
  have hz := pivots_zero h (v := Hnf.sub (Hnf.sub (fun _ => 0) (-d) (vr (F.getD i []))) 1 (comb (fun k => eM F i (ps.getD k 0)) w F.length)) ((Span.zero.sub (-d) hF).sub 1 (comb_span hD.span)) (by
    intro s hs
    simp only [Hnf.sub]
    rw [comb_at (s := s) (d := d) hs (fun k hk => hD.at' k hk s hs)]
    show 0 - -d * eM F i (ps.getD s 0) - 1 * (eM F i (ps.getD s 0) * d) = 0
    grind) j
  have e : d * eM F i j = comb (fun k => eM F i (ps.getD k 0)) w F.length j := by
    simp only [Hnf.sub] at hz
    have : 0 - -d * eM F i j - 1 * comb (fun k => eM F i (ps.getD k 0)) w F.length j = 0 := hz
    grind
  have hb := comb_abs (a := fun k => eM F i (ps.getD k 0)) (w := w) (j := j) (A := d.natAbs) (C := C) (r := F.length) hik (fun k hk => hD.abs k hk j)
  rw [← e, Int.natAbs_mul] at hb
  have e2 : F.length * (d.natAbs * C) = d.natAbs * (F.length * C) := by grind
  rw [e2] at hb
  exact Nat.le_of_mul_le_mul_left hb (by have := hD.ne; omega)
theorem mul_abs {a b : Int} {A B : Nat} (h : a.natAbs ≤ A) (h' : b.natAbs ≤ B) : (a * b).natAbs ≤ A * B := by rw [Int.natAbs_mul]; exact Nat.mul_le_mul h h'
theorem det2_abs {x y : V} (hx : ∀ j, (x j).natAbs ≤ 20) (hy : ∀ j, (y j).natAbs ≤ 20) (p q : Nat) : (det2 x y p q).natAbs ≤ 800 := by
  have h1 := mul_abs (hx p) (hy q)
  have h2 := mul_abs (hx q) (hy p)
  unfold det2; omega
theorem det3_abs {x y z : V} (hx : ∀ j, (x j).natAbs ≤ 20) (hy : ∀ j, (y j).natAbs ≤ 20) (hz : ∀ j, (z j).natAbs ≤ 20) (p q s : Nat) : (det3 x y z p q s).natAbs ≤ 48000 := by
  have h1 := mul_abs (hx p) (det2_abs hy hz q s)
  have h2 := mul_abs (hx q) (det2_abs hy hz p s)
  have h3 := mul_abs (hx s) (det2_abs hy hz p q)
  unfold det3; omega
theorem det4_abs {x y z t : V} (hx : ∀ j, (x j).natAbs ≤ 20) (hy : ∀ j, (y j).natAbs ≤ 20) (hz : ∀ j, (z j).natAbs ≤ 20) (ht : ∀ j, (t j).natAbs ≤ 20) (p q s u : Nat) : (det4 x y z t p q s u).natAbs ≤ 3840000 := by
  have h1 := mul_abs (hx p) (det3_abs hy hz ht q s u)
  have h2 := mul_abs (hx q) (det3_abs hy hz ht p s u)
  have h3 := mul_abs (hx s) (det3_abs hy hz ht p q u)
  have h4 := mul_abs (hx u) (det3_abs hy hz ht p q s)
  unfold det4; omega
theorem span_of_eq {M : List V} {v u : V} (h : Span M v) (e : ∀ j, u j = v j) : Span M u := by rw [show u = v from funext e]; exact h
theorem lt2 {s : Nat} (h : s < 2) : s = 0 ∨ s = 1 := by omega
theorem lt3 {s : Nat} (h : s < 3) : s = 0 ∨ s = 1 ∨ s = 2 := by omega
theorem lt4 {s : Nat} (h : s < 4) : s = 0 ∨ s = 1 ∨ s = 2 ∨ s = 3 := by omega
theorem duals0 (M : List V) (ps : List Nat) : Duals M ps 0 3840000 1 (fun _ _ => 0) := ⟨by decide, fun k h => by omega, fun k h => by omega, fun k h => by omega⟩
theorem duals1 {M : List V} {p : Nat} {f : V} (hM : ∀ r ∈ M, ∀ j, (r j).natAbs ≤ 20) (hf : Span M f) (h : f p ≠ 0) : ∃ d w, Duals M [p] 1 3840000 d w := by
  obtain ⟨x, hx, hne⟩ := lin_row (f := fun v => v p) rfl (fun v q u => rfl) hf h
  refine ⟨x p, fun _ => x, hne, fun k _ => .mem hx, fun k hk s hs => ?_, fun k _ j => by have := hM x hx j; omega⟩
  obtain rfl : k = 0 := by omega
  obtain rfl : s = 0 := by omega
  rw [if_pos rfl]; rfl
theorem duals2 {M : List V} {p q : Nat} {f g : V} (hM : ∀ r ∈ M, ∀ j, (r j).natAbs ≤ 20) (hf : Span M f) (hg : Span M g) (h : det2 f g p q ≠ 0) : ∃ d w, Duals M [p, q] 2 3840000 d w := by
  obtain ⟨x, hx, h⟩ := lin_row (f := fun v => det2 v g p q) (by simp [det2]) (fun v k u => by simp only [det2, Hnf.sub]; grind) hf h
  obtain ⟨y, hy, h⟩ := lin_row (f := fun v => det2 x v p q) (by simp [det2]) (fun v k u => by simp only [det2, Hnf.sub]; grind) hg h
  have bx := hM x hx
  have bY := hM y hy
  refine ⟨det2 x y p q, fun k => if k = 0 then fun j => det2 x y j q else fun j => det2 x y p j, h, fun k hk => ?_, fun k hk s hs => ?_, fun k hk j => ?_⟩
  · rcases lt2 hk with rfl | rfl
    · exact span_of_eq ((Span.zero.step (-(y q)) hx).step (x q) hy) fun j => by simp [det2, Hnf.sub]; grind
    · exact span_of_eq ((Span.zero.step (y p) hx).step (-(x p)) hy) fun j => by simp [det2, Hnf.sub]; grind
  · rcases lt2 hk with rfl | rfl <;> rcases lt2 hs with rfl | rfl <;> simp [det2] <;> grind
  · rcases lt2 hk with rfl | rfl
    · have := det2_abs bx bY j q; simp; omega
    · have := det2_abs bx bY p j; simp; omega
theorem duals3 {M : List V} {p q s : Nat} {f g e : V} (hM : ∀ r ∈ M, ∀ j, (r j).natAbs ≤ 20) (hf : Span M f) (hg : Span M g) (he : Span M e) (h : det3 f g e p q s ≠ 0) : ∃ d w, Duals M [p, q, s] 3 3840000 d w := by
  obtain ⟨x, hx, h⟩ := lin_row (f := fun v => det3 v g e p q s) (by simp [det3]) (fun v k u => by simp only [det3, Hnf.sub]; grind) hf h
  obtain ⟨y, hy, h⟩ := lin_row (f := fun v => det3 x v e p q s) (by simp [det3, det2]) (fun v k u => by simp only [det3, det2, Hnf.sub]; grind) hg h
  obtain ⟨z, hz, h⟩ := lin_row (f := fun v => det3 x y v p q s) (by simp [det3, det2]) (fun v k u => by simp only [det3, det2, Hnf.sub]; grind) he h
  have bx := hM x hx
  have bY := hM y hy
  have bz := hM z hz
  refine ⟨det3 x y z p q s, fun k => if k = 0 then fun j => det3 x y z j q s else if k = 1 then fun j => det3 x y z p j s else fun j => det3 x y z p q j, h, fun k hk => ?_, fun k hk t ht => ?_, fun k hk j => ?_⟩
  · rcases lt3 hk with rfl | rfl | rfl
    · exact span_of_eq (((Span.zero.step (-(det2 y z q s)) hx).step (det2 x z q s) hy).step (-(det2 x y q s)) hz) fun j => by simp [det3, det2, Hnf.sub]; grind
    · exact span_of_eq (((Span.zero.step (det2 y z p s) hx).step (-(det2 x z p s)) hy).step (det2 x y p s) hz) fun j => by simp [det3, det2, Hnf.sub]; grind
    · exact span_of_eq (((Span.zero.step (-(det2 y z p q)) hx).step (det2 x z p q) hy).step (-(det2 x y p q)) hz) fun j => by simp [det3, det2, Hnf.sub]; grind
  · rcases lt3 hk with rfl | rfl | rfl <;> rcases lt3 ht with rfl | rfl | rfl <;> simp [det3, det2] <;> grind
  · rcases lt3 hk with rfl | rfl | rfl
    · have := det3_abs bx bY bz j q s; simp; omega
    · have := det3_abs bx bY bz p j s; simp; omega
    · have := det3_abs bx bY bz p q j; simp; omega
theorem duals4 {M : List V} {p q s t : Nat} {f g e c : V} (hM : ∀ r ∈ M, ∀ j, (r j).natAbs ≤ 20) (hf : Span M f) (hg : Span M g) (he : Span M e) (hc : Span M c) (h : det4 f g e c p q s t ≠ 0) : ∃ d w, Duals M [p, q, s, t] 4 3840000 d w := by
  obtain ⟨x, hx, h⟩ := lin_row (f := fun v => det4 v g e c p q s t) (by simp [det4]) (fun v k u => by simp only [det4, Hnf.sub]; grind) hf h
  obtain ⟨y, hy, h⟩ := lin_row (f := fun v => det4 x v e c p q s t) (by simp [det4, det3]) (fun v k u => by simp only [det4, det3, Hnf.sub]; grind) hg h
  obtain ⟨z, hz, h⟩ := lin_row (f := fun v => det4 x y v c p q s t) (by simp [det4, det3, det2]) (fun v k u => by simp only [det4, det3, det2, Hnf.sub]; grind) he h
  obtain ⟨o, ho, h⟩ := lin_row (f := fun v => det4 x y z v p q s t) (by simp [det4, det3, det2]) (fun v k u => by simp only [det4, det3, det2, Hnf.sub]; grind) hc h
  have bx := hM x hx
  have bY := hM y hy
  have bz := hM z hz
  have bo := hM o ho
  refine ⟨det4 x y z o p q s t, fun k => if k = 0 then fun j => det4 x y z o j q s t else if k = 1 then fun j => det4 x y z o p j s t else if k = 2 then fun j => det4 x y z o p q j t else fun j => det4 x y z o p q s j, h, fun k hk => ?_, fun k hk i hi => ?_, fun k hk j => ?_⟩
  · rcases lt4 hk with rfl | rfl | rfl | rfl
    · exact span_of_eq ((((Span.zero.step (-(det3 y z o q s t)) hx).step (det3 x z o q s t) hy).step (-(det3 x y o q s t)) hz).step (det3 x y z q s t) ho) fun j => by simp [det4, det3, det2, Hnf.sub]; grind
    · exact span_of_eq ((((Span.zero.step (det3 y z o p s t) hx).step (-(det3 x z o p s t)) hy).step (det3 x y o p s t) hz).step (-(det3 x y z p s t)) ho) fun j => by simp [det4, det3, det2, Hnf.sub]; grind
    · exact span_of_eq ((((Span.zero.step (-(det3 y z o p q t)) hx).step (det3 x z o p q t) hy).step (-(det3 x y o p q t)) hz).step (det3 x y z p q t) ho) fun j => by simp [det4, det3, det2, Hnf.sub]; grind
    · exact span_of_eq ((((Span.zero.step (det3 y z o p q s) hx).step (-(det3 x z o p q s)) hy).step (det3 x y o p q s) hz).step (-(det3 x y z p q s)) ho) fun j => by simp [det4, det3, det2, Hnf.sub]; grind
  · rcases lt4 hk with rfl | rfl | rfl | rfl <;> rcases lt4 hi with rfl | rfl | rfl | rfl <;> simp [det4, det3, det2] <;> grind
  · rcases lt4 hk with rfl | rfl | rfl | rfl
    · have := det4_abs bx bY bz bo j q s t; simp; omega
    · have := det4_abs bx bY bz bo p j s t; simp; omega
    · have := det4_abs bx bY bz bo p q j t; simp; omega
    · have := det4_abs bx bY bz bo p q s j; simp; omega
theorem Duals.mono {M N : List V} {ps : List Nat} {r C : Nat} {d : Int} {w : Nat → V} (h : Duals M ps r C d w) (hM : ∀ v ∈ M, Span N v) : Duals N ps r C d w := ⟨h.ne, fun k hk => (h.span k hk).trans hM, h.at', h.abs⟩
theorem mulpos_ne {a b : Int} (h : 0 < a) (h' : 0 < b) : a * b ≠ 0 := by have := Int.mul_pos h h'; omega
/-- The form of a matrix of small numbers with at most four columns. -/
theorem hnf_small {n : Nat} {M F : Mx} (hn : n ≤ 4) (hM : ∀ r ∈ M, ∀ z ∈ r, z.natAbs ≤ 20) (h : HnfOf n M F) : ∀ i, i < F.length → ∀ j, (eM F i j).natAbs ≤ 15360000 := by
  obtain ⟨⟨ps, hF⟩, h1, h2⟩ := h
  have hM' : ∀ r ∈ latM M, ∀ j, (r j).natAbs ≤ 20 := by
    intro r hr j
    obtain ⟨l, hl, rfl⟩ := List.mem_map.1 hr
    show (l.getD j 0).natAbs ≤ 20
    rw [List.getD_eq_getElem?_getD]
    rcases Nat.lt_or_ge j l.length with hj | hj
    · rw [List.getElem?_eq_getElem hj]; exact hM l hl _ (List.getElem_mem hj)
    · rw [List.getElem?_eq_none hj]; simp
  have hD : F.length ≤ 4 ∧ ∃ d w, Duals (latM M) ps F.length 3840000 d w := by
    have hlen := hF.len
    match F, ps, hF, h1, hlen with
    | [], [], hF, h1, _ => exact ⟨by simp, _, _, duals0 _ _⟩
    | [f], [p], hF, h1, _ =>
      exact ⟨by simp, duals1 hM' (h1 (vr f) (by simp [latM])) (by have : 0 < vr f p := hF.pos 0 (by simp); omega)⟩
    | [f, g], [p, q], hF, h1, _ =>
      refine ⟨by simp, duals2 hM' (h1 (vr f) (by simp [latM])) (h1 (vr g) (by simp [latM])) ?_⟩
      have a0 : 0 < vr f p := hF.pos 0 (by simp)
      have a1 : 0 < vr g q := hF.pos 1 (by simp)
      have z1 : vr g p = 0 := hF.left 1 (by simp) p (hF.inc 0 1 (by omega) (by simp))
      unfold det2; rw [z1]
      have := mulpos_ne a0 a1; simpa using this
    | [f, g, e], [p, q, s], hF, h1, _ =>
      refine ⟨by simp, duals3 hM' (h1 (vr f) (by simp [latM])) (h1 (vr g) (by simp [latM])) (h1 (vr e) (by simp [latM])) ?_⟩
      have a0 : 0 < vr f p := hF.pos 0 (by simp)
      have a1 : 0 < vr g q := hF.pos 1 (by simp)
      have a2 : 0 < vr e s := hF.pos 2 (by simp)
      have z1 : vr g p = 0 := hF.left 1 (by simp) p (hF.inc 0 1 (by omega) (by simp))
      have z2 : vr e p = 0 := hF.left 2 (by simp) p (hF.inc 0 2 (by omega) (by simp))
      have z3 : vr e q = 0 := hF.left 2 (by simp) q (hF.inc 1 2 (by omega) (by simp))
      simp only [det3, det2, z1, z2, z3]
      have := mulpos_ne a0 (Int.mul_pos a1 a2); simpa using this
    | [f, g, e, c], [p, q, s, t], hF, h1, _ =>
      refine ⟨by simp, duals4 hM' (h1 (vr f) (by simp [latM])) (h1 (vr g) (by simp [latM])) (h1 (vr e) (by simp [latM])) (h1 (vr c) (by simp [latM])) ?_⟩
      have a0 : 0 < vr f p := hF.pos 0 (by simp)
      have a1 : 0 < vr g q := hF.pos 1 (by simp)
      have a2 : 0 < vr e s := hF.pos 2 (by simp)
      have a3 : 0 < vr c t := hF.pos 3 (by simp)
      have z1 : vr g p = 0 := hF.left 1 (by simp) p (hF.inc 0 1 (by omega) (by simp))
      have z2 : vr e p = 0 := hF.left 2 (by simp) p (hF.inc 0 2 (by omega) (by simp))
      have z3 : vr e q = 0 := hF.left 2 (by simp) q (hF.inc 1 2 (by omega) (by simp))
      have z4 : vr c p = 0 := hF.left 3 (by simp) p (hF.inc 0 3 (by omega) (by simp))
      have z5 : vr c q = 0 := hF.left 3 (by simp) q (hF.inc 1 3 (by omega) (by simp))
      have z6 : vr c s = 0 := hF.left 3 (by simp) s (hF.inc 2 3 (by omega) (by simp))
      simp only [det4, det3, det2, z1, z2, z3, z4, z5, z6]
      have := mulpos_ne a0 (Int.mul_pos a1 (Int.mul_pos a2 a3)); simpa using this
    | _ :: _ :: _ :: _ :: _ :: F', p :: q :: s :: t :: u :: ps', hF, h1, _ =>
      exfalso
      have i1 := hF.inc 0 1 (by omega) (by simp)
      have i2 := hF.inc 1 2 (by omega) (by simp)
      have i3 := hF.inc 2 3 (by omega) (by simp)
      have i4 := hF.inc 3 4 (by omega) (by simp)
      have i5 := hF.lt 4 (by simp)
      omega
    | [], _ :: _, hF, h1, hl => simp at hl
    | [_], [], hF, h1, hl => simp at hl
    | [_], _ :: _ :: _, hF, h1, hl => simp at hl
    | [_, _], [], hF, h1, hl => simp at hl
    | [_, _], [_], hF, h1, hl => simp at hl
    | [_, _], _ :: _ :: _ :: _, hF, h1, hl => simp at hl
    | [_, _, _], [], hF, h1, hl => simp at hl
    | [_, _, _], [_], hF, h1, hl => simp at hl
    | [_, _, _], [_, _], hF, h1, hl => simp at hl
    | [_, _, _], _ :: _ :: _ :: _ :: _, hF, h1, hl => simp at hl
    | _ :: _ :: _ :: _ :: _, [], hF, h1, hl => simp at hl
    | _ :: _ :: _ :: _ :: _, [_], hF, h1, hl => simp at hl
    | _ :: _ :: _ :: _ :: _, [_, _], hF, h1, hl => simp at hl
    | _ :: _ :: _ :: _ :: _, [_, _, _], hF, h1, hl => simp at hl
    | _ :: _ :: _ :: _ :: _ :: _, [_, _, _, _], hF, h1, hl => simp at hl
    | [_, _, _, _], _ :: _ :: _ :: _ :: _ :: _, hF, h1, hl => simp at hl
  obtain ⟨hl, d, w, hD⟩ := hD
  intro i hi j
  have := duals_small hF (hD.mono h2) i hi j
  have : F.length * 3840000 ≤ 4 * 3840000 := Nat.mul_le_mul_right _ hl
  omega
end Go.Proofs.YthmhmkkcjlgbjaaGreatDoor
/- determinants of rows that span each other -/
namespace Go.Proofs.YthmhmkkcjlgbjaaGreatDoor
open Hnf
theorem dvd_lin {M : List V} {f : V → Int} {c : Int} (h0 : f (fun _ => 0) = 0) (hs : ∀ v q u, f (Hnf.sub v q u) = f v - q * f u) (hM : ∀ x ∈ M, c ∣ f x) {v : V} (h : Span M v) : c ∣ f v := by
  induction h with
  | zero => rw [h0]; exact ⟨0, by simp⟩
  | step q h hr ih => rw [hs]; exact Int.dvd_sub ih (Int.dvd_trans (hM _ hr) ⟨q, Int.mul_comm _ _⟩)
theorem det1_dvd {a f : V} {p : Nat} (h1 : Span [a] f) : a p ∣ f p :=
  dvd_lin (f := fun v => v p) rfl (fun v q u => rfl) (fun x hx => by simp at hx; rw [hx]; exact ⟨1, by simp⟩) h1
theorem det2_dvd {a b f g : V} {p q : Nat} (h1 : Span [a, b] f) (h2 : Span [a, b] g) : det2 a b p q ∣ det2 f g p q := by
  refine dvd_lin (f := fun v => det2 v g p q) (by simp [det2]) (fun v k u => by simp only [det2, Hnf.sub]; grind) (fun x hx => ?_) h1
  refine dvd_lin (f := fun v => det2 x v p q) (by simp [det2]) (fun v k u => by simp only [det2, Hnf.sub]; grind) (fun y hy => ?_) h2
  simp only [List.mem_cons, List.not_mem_nil, or_false] at hx hy
  rcases hx with rfl | rfl <;> rcases hy with rfl | rfl
  · exact ⟨0, by simp only [det2]; grind⟩
  · exact ⟨1, by simp only [det2]; grind⟩
  · exact ⟨-1, by simp only [det2]; grind⟩
  · exact ⟨0, by simp only [det2]; grind⟩
theorem det3_sw12 (x y z : V) (p q s : Nat) : det3 y x z p q s = -det3 x y z p q s := by simp only [det3, det2]; grind
theorem det3_sw23 (x y z : V) (p q s : Nat) : det3 x z y p q s = -det3 x y z p q s := by simp only [det3, det2]; grind
theorem det3_e12 (x z : V) (p q s : Nat) : det3 x x z p q s = 0 := by simp only [det3, det2]; grind
theorem det3_e23 (x z : V) (p q s : Nat) : det3 x z z p q s = 0 := by simp only [det3, det2]; grind
theorem det3_e13 (x z : V) (p q s : Nat) : det3 x z x p q s = 0 := by simp only [det3, det2]; grind
theorem dvd_z (c : Int) {x : Int} (h : x = 0) : c ∣ x := ⟨0, by rw [h]; simp⟩
theorem dvd_n {c x y : Int} (h : y = -x) (k : c ∣ x) : c ∣ y := by rw [h]; exact Int.dvd_neg.2 k
theorem det3_dvd {a b c f g e : V} {p q s : Nat} (h1 : Span [a, b, c] f) (h2 : Span [a, b, c] g) (h3 : Span [a, b, c] e) : det3 a b c p q s ∣ det3 f g e p q s := by
  refine dvd_lin (f := fun v => det3 v g e p q s) (by simp [det3]) (fun v k u => by simp only [det3, Hnf.sub]; grind) (fun x hx => ?_) h1
  refine dvd_lin (f := fun v => det3 x v e p q s) (by simp [det3, det2]) (fun v k u => by simp only [det3, det2, Hnf.sub]; grind) (fun y hy => ?_) h2
  refine dvd_lin (f := fun v => det3 x y v p q s) (by simp [det3, det2]) (fun v k u => by simp only [det3, det2, Hnf.sub]; grind) (fun z hz => ?_) h3
  have k0 : det3 a b c p q s ∣ det3 a b c p q s := ⟨1, by simp⟩
  have k1 : det3 a b c p q s ∣ det3 a c b p q s := dvd_n (det3_sw23 _ _ _ _ _ _) k0
  have k2 : det3 a b c p q s ∣ det3 b a c p q s := dvd_n (det3_sw12 _ _ _ _ _ _) k0
  have k3 : det3 a b c p q s ∣ det3 b c a p q s := dvd_n (det3_sw23 _ _ _ _ _ _) k2
  have k4 : det3 a b c p q s ∣ det3 c a b p q s := dvd_n (det3_sw12 _ _ _ _ _ _) k1
  have k5 : det3 a b c p q s ∣ det3 c b a p q s := dvd_n (det3_sw23 _ _ _ _ _ _) k4
  simp only [List.mem_cons, List.not_mem_nil, or_false] at hx hy hz
  by_cases e1 : x = y
  · subst e1; exact dvd_z _ (det3_e12 _ _ _ _ _)
  by_cases e2 : y = z
  · subst e2; exact dvd_z _ (det3_e23 _ _ _ _ _)
  by_cases e3 : x = z
  · subst e3; exact dvd_z _ (det3_e13 _ _ _ _ _)
  rcases hx with rfl | rfl | rfl <;> rcases hy with rfl | rfl | rfl <;> rcases hz with rfl | rfl | rfl <;> first | assumption | exact absurd rfl (by assumption)
theorem det4_sw12 (x y z t : V) (p q s u : Nat) : det4 y x z t p q s u = -det4 x y z t p q s u := by simp only [det4, det3, det2]; grind
theorem det4_sw23 (x y z t : V) (p q s u : Nat) : det4 x z y t p q s u = -det4 x y z t p q s u := by simp only [det4, det3, det2]; grind
theorem det4_sw34 (x y z t : V) (p q s u : Nat) : det4 x y t z p q s u = -det4 x y z t p q s u := by simp only [det4, det3, det2]; grind
theorem neg_self0 {x : Int} (h : x = -x) : x = 0 := by omega
theorem det4_e12 (x z t : V) (p q s u : Nat) : det4 x x z t p q s u = 0 := neg_self0 (det4_sw12 x x z t p q s u)
theorem det4_e23 (x z t : V) (p q s u : Nat) : det4 t x x z p q s u = 0 := neg_self0 (det4_sw23 t x x z p q s u)
theorem det4_e34 (x z t : V) (p q s u : Nat) : det4 t z x x p q s u = 0 := neg_self0 (det4_sw34 t z x x p q s u)
theorem det4_e13 (x z t : V) (p q s u : Nat) : det4 x z x t p q s u = 0 := by rw [det4_sw23, det4_e12]; rfl
theorem det4_e24 (x z t : V) (p q s u : Nat) : det4 t x z x p q s u = 0 := by rw [det4_sw34, det4_e23]; rfl
theorem det4_e14 (x z t : V) (p q s u : Nat) : det4 x z t x p q s u = 0 := by rw [det4_sw34, det4_e13]; rfl
set_option maxHeartbeats 1000000 in
theorem det4_dvd {a b c d f g e h : V} {p q s u : Nat} (h1 : Span [a, b, c, d] f) (h2 : Span [a, b, c, d] g) (h3 : Span [a, b, c, d] e) (h4 : Span [a, b, c, d] h) : det4 a b c d p q s u ∣ det4 f g e h p q s u := by
  refine dvd_lin (f := fun v => det4 v g e h p q s u) (by simp [det4]) (fun v k u => by simp only [det4, Hnf.sub]; grind) (fun x hx => ?_) h1
  refine dvd_lin (f := fun v => det4 x v e h p q s u) (by simp [det4, det3]) (fun v k u => by simp only [det4, det3, Hnf.sub]; grind) (fun y hy => ?_) h2
  refine dvd_lin (f := fun v => det4 x y v h p q s u) (by simp [det4, det3, det2]) (fun v k u => by simp only [det4, det3, det2, Hnf.sub]; grind) (fun z hz => ?_) h3
  refine dvd_lin (f := fun v => det4 x y z v p q s u) (by simp [det4, det3, det2]) (fun v k u => by simp only [det4, det3, det2, Hnf.sub]; grind) (fun t ht => ?_) h4
  have S1 : ∀ {x y z t : V}, det4 a b c d p q s u ∣ det4 x y z t p q s u → det4 a b c d p q s u ∣ det4 y x z t p q s u := fun k => dvd_n (det4_sw12 _ _ _ _ _ _ _ _) k
  have S2 : ∀ {x y z t : V}, det4 a b c d p q s u ∣ det4 x y z t p q s u → det4 a b c d p q s u ∣ det4 x z y t p q s u := fun k => dvd_n (det4_sw23 _ _ _ _ _ _ _ _) k
  have S3 : ∀ {x y z t : V}, det4 a b c d p q s u ∣ det4 x y z t p q s u → det4 a b c d p q s u ∣ det4 x y t z p q s u := fun k => dvd_n (det4_sw34 _ _ _ _ _ _ _ _) k
  have k0 : det4 a b c d p q s u ∣ det4 a b c d p q s u := ⟨1, by simp⟩
  have k1 := S3 k0
  have k2 := S2 k0
  have k3 := S3 k2
  have k4 := S2 k1
  have k5 := S3 k4
  have l0 := S1 k0
  have l1 := S1 k1
  have l2 := S2 l0
  have l3 := S3 l2
  have l4 := S2 l1
  have l5 := S3 l4
  have m0 := S1 k2
  have m1 := S1 k3
  have m2 := S2 m0
  have m3 := S3 m2
  have m4 := S2 m1
  have m5 := S3 m4
  have n0 := S1 k4
  have n1 := S1 k5
  have n2 := S2 n0
  have n3 := S3 n2
  have n4 := S2 n1
  have n5 := S3 n4
  clear S1 S2 S3
  simp only [List.mem_cons, List.not_mem_nil, or_false] at hx hy hz ht
  by_cases e1 : x = y
  · subst e1; exact dvd_z _ (det4_e12 _ _ _ _ _ _ _)
  by_cases e2 : y = z
  · subst e2; exact dvd_z _ (det4_e23 _ _ _ _ _ _ _)
  by_cases e3 : z = t
  · subst e3; exact dvd_z _ (det4_e34 _ _ _ _ _ _ _)
  by_cases e4 : x = z
  · subst e4; exact dvd_z _ (det4_e13 _ _ _ _ _ _ _)
  by_cases e5 : y = t
  · subst e5; exact dvd_z _ (det4_e24 _ _ _ _ _ _ _)
  by_cases e6 : x = t
  · subst e6; exact dvd_z _ (det4_e14 _ _ _ _ _ _ _)
  rcases hx with rfl | rfl | rfl | rfl <;> rcases hy with rfl | rfl | rfl | rfl <;> first | exact absurd rfl e1 | (rcases hz with rfl | rfl | rfl | rfl <;> first | exact absurd rfl e2 | exact absurd rfl e4 | (rcases ht with rfl | rfl | rfl | rfl <;> first | exact absurd rfl e3 | exact absurd rfl e5 | exact absurd rfl e6 | assumption))
end Go.Proofs.YthmhmkkcjlgbjaaGreatDoor
/- hermite: pivot, isForm, IsForm -/
namespace Go.Proofs.YthmhmkkcjlgbjaaGreatDoor
open Go.RowKit Go.Sort
/-- The column of the first element that is not 0. -/
def pv (r : List Int) : Nat := r.findIdx fun z => decide (z ≠ 0)
def pvI (r : List Int) : Int := if pv r < r.length then (pv r : Int) else -1
theorem pv_le (r : List Int) : pv r ≤ r.length := List.findIdx_le_length
theorem pv_zero {r : List Int} {j : Nat} (h : j < pv r) : r.getD j 0 = 0 := by
  have hl : j < r.length := Nat.lt_of_lt_of_le h (pv_le r)
  have := List.not_of_lt_findIdx (p := fun z : Int => decide (z ≠ 0)) (xs := r) h
  rw [getD_get hl]
  simpa using this
theorem pv_ne {r : List Int} (h : pv r < r.length) : r.getD (pv r) 0 ≠ 0 := by
  have := List.findIdx_getElem (xs := r) (p := fun z : Int => decide (z ≠ 0)) (w := h)
  rw [getD_get h]
  simpa [pv] using this
theorem pvI_ix (r : List Int) : IxR (fun i => decide (r.getD i 0 ≠ 0)) r.length (pvI r) := by
  unfold pvI
  by_cases h : pv r < r.length
  · rw [if_pos h]
    exact .inr ⟨pv r, h, rfl, decide_eq_true (pv_ne h), fun j hj => decide_eq_false (by simpa using pv_zero hj)⟩
  · rw [if_neg h]
    exact .inl ⟨rfl, fun i hi => decide_eq_false (by simpa using pv_zero (by omega))⟩
theorem pv_of {r : List Int} {p : Nat} (hp : r.getD p 0 ≠ 0) (hz : ∀ j, j < p → r.getD j 0 = 0) : pv r = p ∧ p < r.length := by
  have hl : p < r.length := by
    rcases Nat.lt_or_ge p r.length with h | h
    · exact h
    · rw [List.getD_eq_getElem?_getD, List.getElem?_eq_none h] at hp; exact absurd rfl hp
  refine ⟨?_, hl⟩
  rcases Nat.lt_trichotomy (pv r) p with h | h | h
  · exact absurd (hz _ h) (pv_ne (by omega))
  · exact h
  · exact absurd (pv_zero h) hp
theorem pivotC_any (z : Int) (w : World) : Calls Tryz.prog 89 #[.int .i64 z] w fun e w' => e = .returned (.bool (decide (z ≠ 0))) ∧ Ext w w' := by
  by_cases h : z = 0
  · subst h
    go_enter Tryz.func89, Tryz.ntmps89
    go_wp2
    go_ret
    exact ⟨rfl, Ext.refl _⟩
  · have hb : decide (z ≠ 0) = true := decide_eq_true h
    rw [hb]
    have h1 : (z == 0) = false := beq_eq_false_iff_ne.2 h
    have h2 : (z != 0) = true := by simp [bne, h1]
    clear hb
    go_enter Tryz.func89, Tryz.ntmps89
    go_wp2
    go_ret
    exact ⟨rfl, Ext.refl _⟩
theorem pivot_any {w : World} {v : Value} {r : List Int} (hR : RowR w v r) (hl : r.length ≤ 1000000) :
    Calls Tryz.prog 52 #[v] w fun e w' => e = .returned (.int .i64 (pvI r)) ∧ Ext w w' := by
  obtain ⟨sa, gb, go, cap, rfl, hc, hS⟩ := hR
  have hI := index_pivot (cap := cap) (p := fun i => decide (r.getD i 0 ≠ 0)) (k := pvI r) hS (by simpa using hl) (fun i h W hW => by
    have hi : i < r.length := by simpa using h
    have e : (is r)[i] = .int .i64 (r.getD i 0) := by rw [getD_get hi]; simp [is]
    rw [e]
    exact pivotC_any _ W) (by rw [is_length]; exact pvI_ix r)
  rw [is_length] at hI
  have HI := Lib.hid hI
  clear hI hS
  go_enter Tryz.func52, Tryz.ntmps52
  go_wp2_with fail
  refine HI.out.mono ?_
  rintro e W ⟨rfl, hE⟩
  go_wp2_with fail
  go_ret
  exact ⟨rfl, hE⟩
set_option maxRecDepth 100000 in
set_option maxHeartbeats 1000000 in
theorem isFormC_any {w : World} {sa sr : Option Addr} {gb go cap gr or cr bp br p n : Nat} {x r : List Int} (hS : Sl w sa gb go (is x)) (hR : Sl w sr gr or (is r)) (hx : x.length = n) (hr : r.length = n) (hn : n ≤ 1000000) (hp : p < n)
    (c1 : w.cell? ⟨bp, 0, none⟩ = some (.int .i64 p)) (c2 : w.cell? ⟨br, 0, none⟩ = some (.slice sr n cr)) :
    Calls Tryz.prog 98 #[.slice sa n cap, .pointer (some ⟨bp, 0, none⟩), .pointer (some ⟨br, 0, none⟩)] w fun e w' => e = .returned (.bool (decide (x.getD p 0 < 0) || decide (r.getD p 0 ≤ x.getD p 0))) ∧ Ext w w' := by
  have hpi : (p : Int) < (n : Int) := by omega
  have hp0 : (0 : Int) ≤ (p : Int) := by omega
  obtain rfl := hS.addr (by simp; omega)
  obtain rfl := hR.addr (by simp; omega)
  have cx := hS.cell p _ (is_get (by omega))
  have cr' := hR.cell p _ (is_get (by omega))
  rw [getD_get (by omega), getD_get (by omega)]
  generalize x[p] = a at *
  generalize r[p] = b at *
  clear hS hR hx hr
  by_cases h : a < 0
  · have e1 : decide (a < 0) = true := decide_eq_true h
    rw [e1, Bool.true_or]
    go_enter Tryz.func98, Tryz.ntmps98
    go_wp2_with fail
    go_quiet (fail)
    go_wp2_with fail
    go_ret
    exact ⟨rfl, (Ext.refl _).drewN _⟩
  · have e1 : decide (a < 0) = false := decide_eq_false h
    rw [e1, Bool.false_or]
    have h0 : 0 ≤ a := by omega
    clear h
    by_cases h2 : b ≤ a
    · have e2 : decide (b ≤ a) = true := decide_eq_true h2
      rw [e2]
      go_enter Tryz.func98, Tryz.ntmps98
      go_wp2_with fail
      go_quiet (fail)
      go_wp2_with fail
      go_ret
      exact ⟨rfl, (Ext.refl _).drewN _⟩
    · have e2 : decide (b ≤ a) = false := decide_eq_false h2
      rw [e2]
      have h3 : a < b := by omega
      go_enter Tryz.func98, Tryz.ntmps98
      go_wp2_with fail
      go_quiet (fail)
      go_wp2_with fail
      go_ret
      exact ⟨rfl, (Ext.refl _).drewN _⟩
end Go.Proofs.YthmhmkkcjlgbjaaGreatDoor
