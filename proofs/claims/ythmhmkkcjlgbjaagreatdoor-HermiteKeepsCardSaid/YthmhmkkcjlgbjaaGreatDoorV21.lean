/- Part 21 of the proof of the claim: contracts of the functions that it reaches, and plain laws; no condition. -/
import Derived.Test.YthmhmkkcjlgbjaaGreatDoorV15
import Derived.Test.YthmhmkkcjlgbjaaGreatDoorV16
import Derived.Test.YthmhmkkcjlgbjaaGreatDoorV18
/- schismalaw07: Line, Make -/
namespace Go.Proofs.YthmhmkkcjlgbjaaGreatDoor
open Go.RowKit Go.Sort
/-- The description of a matrix. -/
structure GridV (cs : Array Value) (R C : Nat) : Prop where
  sz : cs.size = 18
  c0 : cs[0]? = some (.int .u8 R)
  c1 : cs[1]? = some (.int .u8 C)
  ent : ∀ j, j < 16 → ∃ z : Int, cs[2 + j]? = some (.int .i8 z) ∧ -128 ≤ z ∧ z ≤ 127
  r8 : R < 256
  c8 : C < 256
theorem grid_cell {w : World} {cs : Array Value} {T : TypeId} {j : Nat} {x : Value} (h : cs[j]? = some x) : (w.alloc (.cells cs T)).cell? ⟨w.heap.size, j, none⟩ = some x := by
  have e : (w.alloc (.cells cs T)).cell? ⟨w.heap.size, j, none⟩ = cs[j]? := by go_simp
  rw [e, h]
theorem line_idx {i k : Nat} (hi : i < 4) (hk : k < 4) : 4 * i + k < 16 := by omega
set_option maxRecDepth 100000 in
set_option maxHeartbeats 1000000 in
theorem Line_any {w : World} {cs : Array Value} {R C i : Nat} (hG : GridV cs R C) (hi : i < 4) :
    Calls Tryz.prog 44 #[.agg cs, .int .i64 i] w fun e w' => ∃ v r, e = .returned v ∧ RowV w.heap.size w' v r ∧ r.length = 1 + C % 4 ∧ (∀ z ∈ r, -20 ≤ z ∧ z ≤ 20) ∧ Ext w w' := by
  have h0 := grid_cell (w := w) (T := 25) hG.c0
  have h1 := grid_cell (w := w) (T := 25) hG.c1
  have hent := Lib.hid (fun j hj => by obtain ⟨z, hz, hb⟩ := hG.ent j hj; exact (⟨z, grid_cell (w := w) (T := 25) hz, hb⟩ : ∃ z : Int, (w.alloc (.cells cs 25)).cell? ⟨w.heap.size, 2 + j, none⟩ = some (.int .i8 z) ∧ -128 ≤ z ∧ z ≤ 127))
  have hC := hG.c8
  have him : (i : Int) % 4 = (i : Int) := Int.emod_eq_of_lt (by omega) (by omega)
  have hit : (i : Int).tmod 4 = (i : Int) := by rw [Int.tmod_eq_emod_of_nonneg (by omega)]; exact him
  have hEw := (Ext.refl w).alloc (.cells cs 25)
  have hsz : w.heap.size < (w.alloc (.cells cs 25)).heap.size := by simp
  clear hG
  obtain ⟨m, hm⟩ : ∃ m, m = C % 4 := ⟨_, rfl⟩
  have hmI : (C : Int) % 4 = (m : Int) := by omega
  have hm4 : m < 4 := by omega
  rw [← hm]
  clear hm
  go_enter Tryz.func44, Tryz.ntmps44
  go_wp2_with fail
  generalize (w.alloc (.cells cs 25)) = V at *
  try simp only [hmI]
  go_loopw [6, 7] (fun out idx wr => ∃ (k : Nat) (r : List Int), k ≤ 1 + m ∧ idx = .int .i64 k ∧ Hid (RowV V.heap.size wr out r) ∧ Hid (r.length = k) ∧ Hid (∀ z ∈ r, -20 ≤ z ∧ z ≤ 20) ∧ Ext V wr) (fun _ idx _ => 1 + m - (intOf idx).toNat)
  case atStart => exact ⟨0, [], by omega, by go_num, Lib.hid (RowV.nil _ _), Lib.hid rfl, Lib.hid (fun z hz => by cases hz), Ext.refl _⟩
  case round =>
    obtain ⟨k, r, hk, rfl, hO, hl, hb, hE⟩ := hrel
    generalize wr = X at *
    by_cases hlt : k < 1 + m
    · have hki : (k : Int) < 1 + (m : Int) := by omega
      obtain ⟨z, hz, hzb⟩ := hent.out (4 * i + k) (line_idx hi (by omega))
      have hz' := hE.cell hz
      have hsX := hE.size
      have hq : -20 ≤ z.tmod 21 ∧ z.tmod 21 ≤ 20 := by
        have h1 := Int.tmod_lt_of_pos z (b := 21) (by omega)
        have h2 := Int.lt_tmod_of_pos z (b := 21) (by omega)
        omega
      have hkl : r.length ≤ 1000000000 := by rw [hl.out]; omega
      have Hl4 := Lib.hid hkl
      clear hkl
      have hrk := hl.out
      go_wp2_with (at_builtin; refine app_int rfl _ _ 35 Tryz.underlying35 rfl rfl (hO.out.ext ((Ext.refl _).alloc _)) rfl (b := X.heap.size) (z := z.tmod 21) (by go_simp) Hl4.out (by simp; omega) ?_; intro gg cap2 w8 hO8 hB8 hG8; rw [hrk] at hO8 ⊢)
      have hE8 : Ext V w8 := Below.trans (hE.alloc (.cells #[.int .i64 (z.tmod 21)] 3)) hB8
      have hO9 := Lib.hid hO8
      clear hG8 hB8 hO8
      go_wp2_with fail
      go_roundw
      case rel => exact ⟨k + 1, r ++ [z.tmod 21], by omega, by go_num, hO9, Lib.hid (by rw [List.length_append, hl.out]; rfl), Lib.hid (fun y hy => by
        rcases List.mem_append.1 hy with h | h
        · exact hb.out y h
        · rw [List.mem_singleton.1 h]; exact hq), hE8⟩
      case measure => simp [intOf] <;> omega
    · have hke : k = 1 + m := by omega
      go_wp2_with fail
      go_ret
      exact ⟨_, r, rfl, hO.out.mono (by omega), by rw [hl.out, hke], hb.out, hEw.trans hE⟩
theorem GridV.cells {cs : Array Value} {R C : Nat} (h : GridV cs R C) : ∃ z0 z1 z2 z3 z4 z5 z6 z7 z8 z9 z10 z11 z12 z13 z14 z15 : Int, cs = #[.int .u8 R, .int .u8 C, .int .i8 z0, .int .i8 z1, .int .i8 z2, .int .i8 z3, .int .i8 z4, .int .i8 z5, .int .i8 z6, .int .i8 z7, .int .i8 z8, .int .i8 z9, .int .i8 z10, .int .i8 z11, .int .i8 z12, .int .i8 z13, .int .i8 z14, .int .i8 z15] := by
  obtain ⟨z0, g0, _⟩ := h.ent 0 (by omega)
  obtain ⟨z1, g1, _⟩ := h.ent 1 (by omega)
  obtain ⟨z2, g2, _⟩ := h.ent 2 (by omega)
  obtain ⟨z3, g3, _⟩ := h.ent 3 (by omega)
  obtain ⟨z4, g4, _⟩ := h.ent 4 (by omega)
  obtain ⟨z5, g5, _⟩ := h.ent 5 (by omega)
  obtain ⟨z6, g6, _⟩ := h.ent 6 (by omega)
  obtain ⟨z7, g7, _⟩ := h.ent 7 (by omega)
  obtain ⟨z8, g8, _⟩ := h.ent 8 (by omega)
  obtain ⟨z9, g9, _⟩ := h.ent 9 (by omega)
  obtain ⟨z10, g10, _⟩ := h.ent 10 (by omega)
  obtain ⟨z11, g11, _⟩ := h.ent 11 (by omega)
  obtain ⟨z12, g12, _⟩ := h.ent 12 (by omega)
  obtain ⟨z13, g13, _⟩ := h.ent 13 (by omega)
  obtain ⟨z14, g14, _⟩ := h.ent 14 (by omega)
  obtain ⟨z15, g15, _⟩ := h.ent 15 (by omega)
  refine ⟨z0, z1, z2, z3, z4, z5, z6, z7, z8, z9, z10, z11, z12, z13, z14, z15, ?_⟩
  apply Array.ext_getElem?
  intro i
  match i with
  | 0 => simpa using h.c0
  | 1 => simpa using h.c1
  | 2 => simpa using g0
  | 3 => simpa using g1
  | 4 => simpa using g2
  | 5 => simpa using g3
  | 6 => simpa using g4
  | 7 => simpa using g5
  | 8 => simpa using g6
  | 9 => simpa using g7
  | 10 => simpa using g8
  | 11 => simpa using g9
  | 12 => simpa using g10
  | 13 => simpa using g11
  | 14 => simpa using g12
  | 15 => simpa using g13
  | 16 => simpa using g14
  | 17 => simpa using g15
  | i + 18 => rw [Array.getElem?_eq_none (by rw [h.sz]; omega), Array.getElem?_eq_none (by simp)]
/-- What Make returns. -/
def GridM (M : Mx) : Prop := M.length ≤ 4 ∧ ∃ n, 1 ≤ n ∧ n ≤ 4 ∧ Rect n M ∧ ∀ r ∈ M, ∀ z ∈ r, -20 ≤ z ∧ z ≤ 20
set_option maxRecDepth 100000 in
set_option maxHeartbeats 1000000 in
theorem Make_any {w : World} {cs : Array Value} {R C : Nat} (hG : GridV cs R C) :
    Calls Tryz.prog 11 #[.agg cs] w fun e w' => ∃ v M, e = .returned v ∧ MatO w.heap.size w' v M ∧ GridM M ∧ Ext w w' := by
  have h0 := grid_cell (w := w) (T := 25) hG.c0
  have hR := hG.r8
  have HG := Lib.hid hG
  have hEw := (Ext.refl w).alloc (.cells cs 25)
  have hsz : w.heap.size < (w.alloc (.cells cs 25)).heap.size := by simp
  obtain ⟨m, hm⟩ : ∃ m, m = R % 5 := ⟨_, rfl⟩
  have hmI : (R : Int) % 5 = (m : Int) := by omega
  have hm4 : m < 5 := by omega
  obtain ⟨z0, z1, z2, z3, z4, z5, z6, z7, z8, z9, z10, z11, z12, z13, z14, z15, hcs⟩ := hG.cells
  have hcell := Lib.hid (fun (j : Nat) (x : Value) (h : cs[j]? = some x) => grid_cell (w := w) (T := 25) h)
  have Hcs := Lib.hid hcs
  clear hm hG hcs
  go_enter Tryz.func11, Tryz.ntmps11
  go_wp2_with fail
  generalize (w.alloc (.cells cs 25)) = V at *
  go_loopw [3, 4] (fun out idx wr => ∃ (k : Nat) (M : Mx), k ≤ m ∧ idx = .int .i64 k ∧ Hid (MatO V.heap.size wr out M) ∧ Hid (M.length = k) ∧ Hid (Rect (1 + C % 4) M) ∧ Hid (∀ r ∈ M, ∀ z ∈ r, -20 ≤ z ∧ z ≤ 20) ∧ Ext V wr) (fun _ idx _ => m - (intOf idx).toNat)
  case atStart => exact ⟨0, [], by omega, by go_num, Lib.hid (MatO.nil _ _), Lib.hid rfl, Lib.hid (fun z hz => by cases hz), Lib.hid (fun z hz => by cases hz), Ext.refl _⟩
  case round =>
    obtain ⟨k, M, hk, rfl, hO, hl, hR1, hb, hE⟩ := hrel
    generalize wr = X at *
    have h0X := hE.cell h0
    by_cases hlt : k < m
    · have hki : (k : Int) < (m : Int) := by omega
      have hln := Lib.hid (Line_any (w := X) (i := k) HG.out (by omega))
      rw [Hcs.out] at hln
      have c0 := h0X
      have c1 := hE.cell (hcell.out 1 (.int .u8 C) (by rw [Hcs.out]; rfl))
      have c2 := hE.cell (hcell.out 2 (.int .i8 z0) (by rw [Hcs.out]; rfl))
      have c3 := hE.cell (hcell.out 3 (.int .i8 z1) (by rw [Hcs.out]; rfl))
      have c4 := hE.cell (hcell.out 4 (.int .i8 z2) (by rw [Hcs.out]; rfl))
      have c5 := hE.cell (hcell.out 5 (.int .i8 z3) (by rw [Hcs.out]; rfl))
      have c6 := hE.cell (hcell.out 6 (.int .i8 z4) (by rw [Hcs.out]; rfl))
      have c7 := hE.cell (hcell.out 7 (.int .i8 z5) (by rw [Hcs.out]; rfl))
      have c8 := hE.cell (hcell.out 8 (.int .i8 z6) (by rw [Hcs.out]; rfl))
      have c9 := hE.cell (hcell.out 9 (.int .i8 z7) (by rw [Hcs.out]; rfl))
      have c10 := hE.cell (hcell.out 10 (.int .i8 z8) (by rw [Hcs.out]; rfl))
      have c11 := hE.cell (hcell.out 11 (.int .i8 z9) (by rw [Hcs.out]; rfl))
      have c12 := hE.cell (hcell.out 12 (.int .i8 z10) (by rw [Hcs.out]; rfl))
      have c13 := hE.cell (hcell.out 13 (.int .i8 z11) (by rw [Hcs.out]; rfl))
      have c14 := hE.cell (hcell.out 14 (.int .i8 z12) (by rw [Hcs.out]; rfl))
      have c15 := hE.cell (hcell.out 15 (.int .i8 z13) (by rw [Hcs.out]; rfl))
      have c16 := hE.cell (hcell.out 16 (.int .i8 z14) (by rw [Hcs.out]; rfl))
      have c17 := hE.cell (hcell.out 17 (.int .i8 z15) (by rw [Hcs.out]; rfl))
      go_wp2_with fail
      refine hln.out.mono ?_
      rintro e W ⟨v, r, rfl, hv, hrl, hrb, hW⟩
      have HR2 := Lib.hid ((hv.mono (show V.heap.size ≤ X.heap.size from hE.size)))
      have HO2 := Lib.hid (hO.out.ext hW)
      have hEW := Lib.hid (hE.trans hW)
      have hszW := hEW.out.size
      have Hrl := Lib.hid hrl
      have Hrb := Lib.hid hrb
      have hMk := hl.out
      have HM9 := Lib.hid (show M.length ≤ 1000000000 by rw [hl.out]; omega)
      obtain ⟨sv, bv, cv, rfl⟩ : ∃ a l c, v = .slice a l c := by
        rcases hv.2 with ⟨rfl, _⟩ | ⟨g, cap, cur, rfl, _⟩ <;> exact ⟨_, _, _, rfl⟩
      clear hv hrl hrb hW hln c0 c1 c2 c3 c4 c5 c6 c7 c8 c9 c10 c11 c12 c13 c14 c15 c16 c17
      go_wp2_with (at_builtin; refine app_mat rfl _ _ rfl rfl (HO2.out.ext ((Ext.refl _).alloc _)) rfl (b := W.heap.size) (by go_simp) (HR2.out.ext ((Ext.refl _).alloc _)) HM9.out (by simp; omega) ?_; intro gg cap2 w8 hO8 hB8 hG8; rw [hMk] at hO8 ⊢)
      have hE8 : Ext V w8 := Below.trans (hEW.out.alloc (.cells #[.slice sv bv cv] 35)) hB8
      have hO9 := Lib.hid hO8
      clear hG8 hB8 hO8
      go_wp2_with fail
      go_roundw
      case rel => exact ⟨k + 1, M ++ [r], by omega, by go_num, hO9, Lib.hid (by rw [List.length_append, hl.out]; rfl), Lib.hid (fun y hy => by
        rcases List.mem_append.1 hy with h | h
        · exact hR1.out y h
        · rw [List.mem_singleton.1 h]; exact Hrl.out), Lib.hid (fun y hy => by
        rcases List.mem_append.1 hy with h | h
        · exact hb.out y h
        · rw [List.mem_singleton.1 h]; exact Hrb.out), hE8⟩
      case measure => simp [intOf] <;> omega
    · have hke : k = m := by omega
      go_wp2_with fail
      go_ret
      exact ⟨_, M, rfl, hO.out.mono (by omega), ⟨by rw [hl.out]; omega, 1 + C % 4, by omega, by omega, hR1.out, hb.out⟩, hEw.trans hE⟩
end Go.Proofs.YthmhmkkcjlgbjaaGreatDoor
/- determinants of rows that span each other -/
namespace Go.Proofs.YthmhmkkcjlgbjaaGreatDoor
open Hnf
theorem dvd_lin {M : List V} {f : V → Int} {c : Int} (h0 : f (fun _ => 0) = 0) (hs : ∀ v q u, f (Hnf.sub v q u) = f v - q * f u) (hM : ∀ x ∈ M, c ∣ f x) {v : V} (h : Span M v) : c ∣ f v := by
  induction h with
  | zero => rw [h0]; exact ⟨0, by simp⟩
  | step q h hr ih => rw [hs]; exact Int.dvd_sub ih (Int.dvd_trans (hM _ hr) ⟨q, Int.mul_comm _ _⟩)
theorem det1_dvd {a f : V} {p : Nat} (h1 : Span [a] f) : a p ∣ f p :=
  dvd_lin (f := fun v => v p) rfl (fun v q u => rfl) (fun x hx => by simp at hx; rw [hx]; exact ⟨1, by simp⟩) h1
theorem det2_dvd {a b f g : V} {p q : Nat} (h1 : Span [a, b] f) (h2 : Span [a, b] g) : det2 a b p q ∣ det2 f g p q := by
  refine dvd_lin (f := fun v => det2 v g p q) (by simp [det2]) (fun v k u => by simp only [det2, Hnf.sub]; grind) (fun x hx => ?_) h1
  refine dvd_lin (f := fun v => det2 x v p q) (by simp [det2]) (fun v k u => by simp only [det2, Hnf.sub]; grind) (fun y hy => ?_) h2
  simp only [List.mem_cons, List.not_mem_nil, or_false] at hx hy
  rcases hx with rfl | rfl <;> rcases hy with rfl | rfl
  · exact ⟨0, by simp only [det2]; grind⟩
  · exact ⟨1, by simp only [det2]; grind⟩
  · exact ⟨-1, by simp only [det2]; grind⟩
  · exact ⟨0, by simp only [det2]; grind⟩
theorem det3_sw12 (x y z : V) (p q s : Nat) : det3 y x z p q s = -det3 x y z p q s := by simp only [det3, det2]; grind
theorem det3_sw23 (x y z : V) (p q s : Nat) : det3 x z y p q s = -det3 x y z p q s := by simp only [det3, det2]; grind
theorem det3_e12 (x z : V) (p q s : Nat) : det3 x x z p q s = 0 := by simp only [det3, det2]; grind
theorem det3_e23 (x z : V) (p q s : Nat) : det3 x z z p q s = 0 := by simp only [det3, det2]; grind
theorem det3_e13 (x z : V) (p q s : Nat) : det3 x z x p q s = 0 := by simp only [det3, det2]; grind
theorem dvd_z (c : Int) {x : Int} (h : x = 0) : c ∣ x := ⟨0, by rw [h]; simp⟩
theorem dvd_n {c x y : Int} (h : y = -x) (k : c ∣ x) : c ∣ y := by rw [h]; exact Int.dvd_neg.2 k
theorem det3_dvd {a b c f g e : V} {p q s : Nat} (h1 : Span [a, b, c] f) (h2 : Span [a, b, c] g) (h3 : Span [a, b, c] e) : det3 a b c p q s ∣ det3 f g e p q s := by
  refine dvd_lin (f := fun v => det3 v g e p q s) (by simp [det3]) (fun v k u => by simp only [det3, Hnf.sub]; grind) (fun x hx => ?_) h1
  refine dvd_lin (f := fun v => det3 x v e p q s) (by simp [det3, det2]) (fun v k u => by simp only [det3, det2, Hnf.sub]; grind) (fun y hy => ?_) h2
  refine dvd_lin (f := fun v => det3 x y v p q s) (by simp [det3, det2]) (fun v k u => by simp only [det3, det2, Hnf.sub]; grind) (fun z hz => ?_) h3
  have k0 : det3 a b c p q s ∣ det3 a b c p q s := ⟨1, by simp⟩
  have k1 : det3 a b c p q s ∣ det3 a c b p q s := dvd_n (det3_sw23 _ _ _ _ _ _) k0
  have k2 : det3 a b c p q s ∣ det3 b a c p q s := dvd_n (det3_sw12 _ _ _ _ _ _) k0
  have k3 : det3 a b c p q s ∣ det3 b c a p q s := dvd_n (det3_sw23 _ _ _ _ _ _) k2
  have k4 : det3 a b c p q s ∣ det3 c a b p q s := dvd_n (det3_sw12 _ _ _ _ _ _) k1
  have k5 : det3 a b c p q s ∣ det3 c b a p q s := dvd_n (det3_sw23 _ _ _ _ _ _) k4
  simp only [List.mem_cons, List.not_mem_nil, or_false] at hx hy hz
  by_cases e1 : x = y
  · subst e1; exact dvd_z _ (det3_e12 _ _ _ _ _)
  by_cases e2 : y = z
  · subst e2; exact dvd_z _ (det3_e23 _ _ _ _ _)
  by_cases e3 : x = z
  · subst e3; exact dvd_z _ (det3_e13 _ _ _ _ _)
  rcases hx with rfl | rfl | rfl <;> rcases hy with rfl | rfl | rfl <;> rcases hz with rfl | rfl | rfl <;> first | assumption | exact absurd rfl (by assumption)
theorem det4_sw12 (x y z t : V) (p q s u : Nat) : det4 y x z t p q s u = -det4 x y z t p q s u := by simp only [det4, det3, det2]; grind
theorem det4_sw23 (x y z t : V) (p q s u : Nat) : det4 x z y t p q s u = -det4 x y z t p q s u := by simp only [det4, det3, det2]; grind
theorem det4_sw34 (x y z t : V) (p q s u : Nat) : det4 x y t z p q s u = -det4 x y z t p q s u := by simp only [det4, det3, det2]; grind
theorem neg_self0 {x : Int} (h : x = -x) : x = 0 := by omega
theorem det4_e12 (x z t : V) (p q s u : Nat) : det4 x x z t p q s u = 0 := neg_self0 (det4_sw12 x x z t p q s u)
theorem det4_e23 (x z t : V) (p q s u : Nat) : det4 t x x z p q s u = 0 := neg_self0 (det4_sw23 t x x z p q s u)
theorem det4_e34 (x z t : V) (p q s u : Nat) : det4 t z x x p q s u = 0 := neg_self0 (det4_sw34 t z x x p q s u)
theorem det4_e13 (x z t : V) (p q s u : Nat) : det4 x z x t p q s u = 0 := by rw [det4_sw23, det4_e12]; rfl
theorem det4_e24 (x z t : V) (p q s u : Nat) : det4 t x z x p q s u = 0 := by rw [det4_sw34, det4_e23]; rfl
theorem det4_e14 (x z t : V) (p q s u : Nat) : det4 x z t x p q s u = 0 := by rw [det4_sw34, det4_e13]; rfl
set_option maxHeartbeats 1000000 in
theorem det4_dvd {a b c d f g e h : V} {p q s u : Nat} (h1 : Span [a, b, c, d] f) (h2 : Span [a, b, c, d] g) (h3 : Span [a, b, c, d] e) (h4 : Span [a, b, c, d] h) : det4 a b c d p q s u ∣ det4 f g e h p q s u := by
  refine dvd_lin (f := fun v => det4 v g e h p q s u) (by simp [det4]) (fun v k u => by simp only [det4, Hnf.sub]; grind) (fun x hx => ?_) h1
  refine dvd_lin (f := fun v => det4 x v e h p q s u) (by simp [det4, det3]) (fun v k u => by simp only [det4, det3, Hnf.sub]; grind) (fun y hy => ?_) h2
  refine dvd_lin (f := fun v => det4 x y v h p q s u) (by simp [det4, det3, det2]) (fun v k u => by simp only [det4, det3, det2, Hnf.sub]; grind) (fun z hz => ?_) h3
  refine dvd_lin (f := fun v => det4 x y z v p q s u) (by simp [det4, det3, det2]) (fun v k u => by simp only [det4, det3, det2, Hnf.sub]; grind) (fun t ht => ?_) h4
  have S1 : ∀ {x y z t : V}, det4 a b c d p q s u ∣ det4 x y z t p q s u → det4 a b c d p q s u ∣ det4 y x z t p q s u := fun k => dvd_n (det4_sw12 _ _ _ _ _ _ _ _) k
  have S2 : ∀ {x y z t : V}, det4 a b c d p q s u ∣ det4 x y z t p q s u → det4 a b c d p q s u ∣ det4 x z y t p q s u := fun k => dvd_n (det4_sw23 _ _ _ _ _ _ _ _) k
  have S3 : ∀ {x y z t : V}, det4 a b c d p q s u ∣ det4 x y z t p q s u → det4 a b c d p q s u ∣ det4 x y t z p q s u := fun k => dvd_n (det4_sw34 _ _ _ _ _ _ _ _) k
  have k0 : det4 a b c d p q s u ∣ det4 a b c d p q s u := ⟨1, by simp⟩
  have k1 := S3 k0
  have k2 := S2 k0
  have k3 := S3 k2
  have k4 := S2 k1
  have k5 := S3 k4
  have l0 := S1 k0
  have l1 := S1 k1
  have l2 := S2 l0
  have l3 := S3 l2
  have l4 := S2 l1
  have l5 := S3 l4
  have m0 := S1 k2
  have m1 := S1 k3
  have m2 := S2 m0
  have m3 := S3 m2
  have m4 := S2 m1
  have m5 := S3 m4
  have n0 := S1 k4
  have n1 := S1 k5
  have n2 := S2 n0
  have n3 := S3 n2
  have n4 := S2 n1
  have n5 := S3 n4
  clear S1 S2 S3
  simp only [List.mem_cons, List.not_mem_nil, or_false] at hx hy hz ht
  by_cases e1 : x = y
  · subst e1; exact dvd_z _ (det4_e12 _ _ _ _ _ _ _)
  by_cases e2 : y = z
  · subst e2; exact dvd_z _ (det4_e23 _ _ _ _ _ _ _)
  by_cases e3 : z = t
  · subst e3; exact dvd_z _ (det4_e34 _ _ _ _ _ _ _)
  by_cases e4 : x = z
  · subst e4; exact dvd_z _ (det4_e13 _ _ _ _ _ _ _)
  by_cases e5 : y = t
  · subst e5; exact dvd_z _ (det4_e24 _ _ _ _ _ _ _)
  by_cases e6 : x = t
  · subst e6; exact dvd_z _ (det4_e14 _ _ _ _ _ _ _)
  rcases hx with rfl | rfl | rfl | rfl <;> rcases hy with rfl | rfl | rfl | rfl <;> first | exact absurd rfl e1 | (rcases hz with rfl | rfl | rfl | rfl <;> first | exact absurd rfl e2 | exact absurd rfl e4 | (rcases ht with rfl | rfl | rfl | rfl <;> first | exact absurd rfl e3 | exact absurd rfl e5 | exact absurd rfl e6 | assumption))
end Go.Proofs.YthmhmkkcjlgbjaaGreatDoor
/- the index of multiplied rows -/
namespace Go.Proofs.YthmhmkkcjlgbjaaGreatDoor
open Hnf
def Z0 : V := fun _ => 0
/-- The determinant of up to four rows on the columns P. -/
def detV (P : Nat → Nat) : List V → Int
  | [] => 1
  | [a] => a (P 0)
  | [a, b] => det2 a b (P 0) (P 1)
  | [a, b, c] => det3 a b c (P 0) (P 1) (P 2)
  | [a, b, c, d] => det4 a b c d (P 0) (P 1) (P 2) (P 3)
  | _ => 0
theorem detV_dvd {P : Nat → Nat} {A B : List V} (hl : B.length = A.length) (h4 : A.length ≤ 4) (hs : ∀ v ∈ B, Span A v) : detV P A ∣ detV P B := by
  match A, B, hl, h4 with
  | [], [], _, _ => exact ⟨1, rfl⟩
  | [a], [f], _, _ => exact det1_dvd (hs f (by simp))
  | [a, b], [f, g], _, _ => exact det2_dvd (hs f (by simp)) (hs g (by simp))
  | [a, b, c], [f, g, e], _, _ => exact det3_dvd (hs f (by simp)) (hs g (by simp)) (hs e (by simp))
  | [a, b, c, d], [f, g, e, h], _, _ => exact det4_dvd (hs f (by simp)) (hs g (by simp)) (hs e (by simp)) (hs h (by simp))
  | _ :: _ :: _ :: _ :: _ :: _, _, _, h => simp at h
theorem detV_zero {P : Nat → Nat} {A : List V} (h4 : A.length ≤ 3) : detV P (A ++ [Z0]) = 0 := by
  match A, h4 with
  | [], _ => rfl
  | [a], _ => simp [detV, det2, Z0]
  | [a, b], _ => simp [detV, det3, det2, Z0]
  | [a, b, c], _ => simp [detV, det4, det3, det2, Z0]
  | _ :: _ :: _ :: _ :: _, h => simp at h
def mulV (k : Int) (v : V) : V := fun j => k * v j
def prodL : List Int → Int
  | [] => 1
  | k :: ks => k * prodL ks
theorem detV_mul {P : Nat → Nat} {A : List V} {ks : List Int} (hl : ks.length = A.length) (h4 : A.length ≤ 4) : detV P (List.zipWith mulV ks A) = prodL ks * detV P A := by
  match A, ks, hl, h4 with
  | [], [], _, _ => simp [detV, prodL]
  | [a], [k], _, _ => simp [detV, prodL, mulV]
  | [a, b], [k, l], _, _ => simp only [List.zipWith, detV, prodL, mulV, det2]; grind
  | [a, b, c], [k, l, m], _, _ => simp only [List.zipWith, detV, prodL, mulV, det3, det2]; grind
  | [a, b, c, d], [k, l, m, n], _, _ => simp only [List.zipWith, detV, prodL, mulV, det4, det3, det2]; grind
  | _ :: _ :: _ :: _ :: _ :: _, _, _, h => simp at h
/-- The product of the first i pivots. -/
def prP (P : Nat → Nat) (G : Mx) : Nat → Int
  | 0 => 1
  | i + 1 => prP P G i * eM G i (P i)
theorem detV_tri {P : Nat → Nat} {G : Mx} (h4 : G.length ≤ 4) (h0 : ∀ i k, k < i → i < G.length → eM G i (P k) = 0) : detV P (latM G) = prP P G G.length := by
  match G, h4 with
  | [], _ => rfl
  | [a], _ => simp [detV, latM, prP, eM, vr]
  | [a, b], _ =>
    have z1 := h0 1 0 (by omega) (by simp)
    simp only [eM, List.getD_cons_succ, List.getD_cons_zero] at z1
    simp only [detV, latM, List.map, List.length, prP, eM, det2, vr, List.getD_cons_succ, List.getD_cons_zero, z1]
    grind
  | [a, b, c], _ =>
    have z1 := h0 1 0 (by omega) (by simp)
    have z2 := h0 2 0 (by omega) (by simp)
    have z3 := h0 2 1 (by omega) (by simp)
    simp only [eM, List.getD_cons_succ, List.getD_cons_zero] at z1 z2 z3
    simp only [detV, latM, List.map, List.length, prP, eM, det3, det2, vr, List.getD_cons_succ, List.getD_cons_zero, z1, z2, z3]
    grind
  | [a, b, c, d], _ =>
    have z1 := h0 1 0 (by omega) (by simp)
    have z2 := h0 2 0 (by omega) (by simp)
    have z3 := h0 2 1 (by omega) (by simp)
    have z4 := h0 3 0 (by omega) (by simp)
    have z5 := h0 3 1 (by omega) (by simp)
    have z6 := h0 3 2 (by omega) (by simp)
    simp only [eM, List.getD_cons_succ, List.getD_cons_zero] at z1 z2 z3 z4 z5 z6
    simp only [detV, latM, List.map, List.length, prP, eM, det4, det3, det2, vr, List.getD_cons_succ, List.getD_cons_zero, z1, z2, z3, z4, z5, z6]
    grind
  | _ :: _ :: _ :: _ :: _ :: _, h => simp at h
theorem prP_pos {P : Nat → Nat} {G : Mx} : ∀ i, i ≤ G.length → (∀ k, k < G.length → 0 < eM G k (P k)) → 0 < prP P G i
  | 0, _, _ => by simp [prP]
  | i + 1, h, hp => Int.mul_pos (prP_pos i (by omega) hp) (hp i (by omega))
theorem IsH.tri {n : Nat} {ps : List Nat} {F : Mx} (h : IsH n ps F) : ∀ i k, k < i → i < F.length → eM F i (ps.getD k 0) = 0 := fun i k hki hi => h.left i hi _ (h.inc k i hki hi)
theorem IsH.det {n : Nat} {ps : List Nat} {F : Mx} (h : IsH n ps F) (h4 : F.length ≤ 4) : detV (fun i => ps.getD i 0) (latM F) = prP (fun i => ps.getD i 0) F F.length ∧ 0 < prP (fun i => ps.getD i 0) F F.length :=
  ⟨detV_tri h4 h.tri, prP_pos _ (Nat.le_refl _) h.pos⟩
/-- A form has no more rows than what spans a multiple of each of its rows. -/
theorem rank_le {n : Nat} {ps : List Nat} {F G : Mx} {N : Int} (h : IsH n ps F) (h4 : F.length ≤ 4) (hN : N ≠ 0) (hs : ∀ v ∈ latM F, Span (latM G) (mulV N v)) : F.length ≤ G.length := by
  rcases Nat.lt_or_ge G.length F.length with hlt | hge
  · exfalso
    obtain ⟨X, hX, hXl⟩ : ∃ X : List V, (∀ v ∈ latM G, v ∈ X) ∧ X.length + 1 = F.length := by
      refine ⟨latM G ++ List.replicate (F.length - G.length - 1) Z0, fun v hv => List.mem_append_left _ hv, ?_⟩
      rw [List.length_append, List.length_replicate, latM, List.length_map]; omega
    have hd : detV (fun i => ps.getD i 0) (X ++ [Z0]) ∣ detV (fun i => ps.getD i 0) (List.zipWith mulV (List.replicate F.length N) (latM F)) := by
      refine detV_dvd ?_ (by simp; omega) fun v hv => ?_
      · simp [latM]; omega
      · obtain ⟨i, hi, rfl⟩ := List.getElem_of_mem hv
        have hiF : i < (latM F).length := by rw [List.length_zipWith] at hi; omega
        rw [List.getElem_zipWith]
        have := hs (latM F)[i] (List.getElem_mem hiF)
        rw [List.getElem_replicate]
        exact this.mono fun r hr => List.mem_append_left _ (hX r hr)
    rw [detV_zero (by omega), detV_mul (by simp [latM]) (by simp [latM]; omega)] at hd
    obtain ⟨h1, h2⟩ := h.det h4
    have hp : ∀ m, prodL (List.replicate m N) ≠ 0 := fun m => by
      induction m with
      | zero => simp [prodL]
      | succ m ih => rw [List.replicate_succ, prodL]; exact Int.mul_ne_zero hN ih
    rw [Int.zero_dvd, h1] at hd
    exact Int.mul_ne_zero (hp _) (by omega) hd
  · exact hge
theorem idxN_prP {n : Nat} {ps : List Nat} {F G : Mx} (h : IsH n ps F) : ∀ i, i ≤ F.length → pivP F G i = prP (fun i => ps.getD i 0) G i
  | 0, _ => rfl
  | i + 1, hi => by
    have e : pv (F.getD i []) = ps.getD i 0 := by
      rw [isH_pv h, getD_map pv F i (by omega) 0 []]
    rw [pivP, prP, idxN_prP h i (by omega), e]
theorem mulV_span {M : List V} {v : V} (k : Int) (h : Span M v) : Span M (mulV k v) := by
  have e : mulV k v = Hnf.sub (fun _ => 0) (-k) v := by funext j; simp only [mulV, Hnf.sub]; grind
  rw [e]; exact Span.sub _ .zero h
theorem scale_span {ks : List Int} {A : List V} : ∀ v ∈ List.zipWith mulV ks A, Span A v := fun v hv => by
  obtain ⟨i, hi, rfl⟩ := List.getElem_of_mem hv
  rw [List.getElem_zipWith]
  exact mulV_span _ (.mem (List.getElem_mem _))
theorem prodL_dvd : ∀ {ks : List Int} {k : Int}, k ∈ ks → ∃ c, prodL ks = c * k
  | k :: ks, _, .head _ => ⟨prodL ks, by rw [prodL]; exact Int.mul_comm _ _⟩
  | l :: ks, k, .tail _ h => by
    obtain ⟨c, hc⟩ := prodL_dvd h
    exact ⟨l * c, by rw [prodL, hc, Int.mul_assoc]⟩
theorem prodL_ne : ∀ {ks : List Int}, (∀ k ∈ ks, k ≠ 0) → prodL ks ≠ 0
  | [], _ => by simp [prodL]
  | k :: ks, h => by rw [prodL]; exact Int.mul_ne_zero (h k (by simp)) (prodL_ne fun l hl => h l (by simp [hl]))
theorem dvd_abs {a b : Int} (h : a ∣ b) (h' : b ∣ a) : a.natAbs = b.natAbs := Nat.dvd_antisymm (Int.natAbs_dvd_natAbs.2 h) (Int.natAbs_dvd_natAbs.2 h')
/-- The law: S has the rows of M, multiplied. -/
theorem sub_law {n : Nat} {M S F G : Mx} {ks : List Int} (hn : n ≤ 4) (hm : M.length ≤ 4) (hl : ks.length = M.length) (hk : ∀ k ∈ ks, k ≠ 0) (hS : latM S = List.zipWith mulV ks (latM M)) (hF : HnfOf n M F) (hG : HnfOf n S G) :
    F.length ≤ G.length ∧ (F.length = M.length → idxN F G F.length = (prodL ks).natAbs) := by
  obtain ⟨⟨ps, hF⟩, f1, f2⟩ := hF
  obtain ⟨⟨qs, hG⟩, g1, g2⟩ := hG
  have hlM : ks.length = (latM M).length := by rw [latM, List.length_map]; exact hl
  have hF4 : F.length ≤ 4 := by
    rcases Nat.lt_or_ge 4 F.length with h | h
    · have a0 := hF.inc 0 1 (by omega) (by omega)
      have a1 := hF.inc 1 2 (by omega) (by omega)
      have a2 := hF.inc 2 3 (by omega) (by omega)
      have a3 := hF.inc 3 4 (by omega) (by omega)
      have a4 := hF.lt 4 (by omega)
      omega
    · exact h
  have hsub : ∀ v ∈ latM S, Span (latM M) v := by rw [hS]; exact scale_span
  have hmul : ∀ v ∈ latM M, Span (latM S) (mulV (prodL ks) v) := fun v hv => by
    obtain ⟨i, hi, rfl⟩ := List.getElem_of_mem hv
    have hki : i < ks.length := by omega
    obtain ⟨c, hc⟩ := prodL_dvd (List.getElem_mem hki)
    have : mulV (prodL ks) (latM M)[i] = mulV c (mulV ks[i] (latM M)[i]) := by
      funext j; simp only [mulV]; rw [hc, Int.mul_assoc]
    rw [this]
    refine mulV_span _ (.mem ?_)
    rw [hS]
    have : mulV ks[i] (latM M)[i] = (List.zipWith mulV ks (latM M))[i]'(by simp; omega) := by rw [List.getElem_zipWith]
    rw [this]; exact List.getElem_mem _
  have hNe := prodL_ne hk
  have hle : F.length ≤ G.length := by
    refine rank_le hF hF4 hNe fun v hv => ?_
    have h1 : Span (latM S) (mulV (prodL ks) v) := by
      have := f1 v hv
      clear hv
      induction this with
      | zero => exact mulV_span _ .zero
      | @step v r q h hr ih =>
        have e : mulV (prodL ks) (Hnf.sub v q r) = Hnf.sub (mulV (prodL ks) v) q (mulV (prodL ks) r) := by
          funext j; simp only [mulV, Hnf.sub]; grind
        rw [e]
        exact Span.sub _ ih (hmul r hr)
    exact h1.trans g2
  refine ⟨hle, fun hFM => ?_⟩
  have hGF : ∀ v ∈ latM G, Span (latM F) v := fun v hv => ((g1 v hv).trans hsub).trans f2
  obtain ⟨hlen, hpq⟩ := same_piv hF hG hGF hle
  obtain ⟨P, hP⟩ : ∃ P : Nat → Nat, P = fun i => ps.getD i 0 := ⟨_, rfl⟩
  have dF := hF.det hF4
  rw [← hP] at dF
  have dM : (detV P (latM M)).natAbs = (detV P (latM F)).natAbs :=
    dvd_abs (detV_dvd (by simp [latM, hFM]) (by simp [latM]; omega) f1) (detV_dvd (by simp [latM, hFM]) (by simp [latM]; omega) f2)
  have hSl : S.length = M.length := by
    have := congrArg List.length hS
    simp [latM] at this; omega
  have dG : (detV P (latM G)).natAbs = (detV P (latM S)).natAbs :=
    dvd_abs (detV_dvd (by simp [latM]; omega) (by simp [latM]; omega) g2) (detV_dvd (by simp [latM]; omega) (by simp [latM]; omega) g1)
  rw [hS, detV_mul hlM (by simp [latM]; omega), Int.natAbs_mul, dM] at dG
  have tG : detV P (latM G) = prP P G G.length := detV_tri (by omega) fun i k hki hi => by
    have := hG.tri i k hki hi
    rw [(hpq k (by omega)).1] at this
    rw [hP]; exact this
  have pG : 0 < prP P G G.length := prP_pos _ (Nat.le_refl _) fun k hk' => by
    have := hG.pos k hk'
    rw [(hpq k (by omega)).1] at this
    rw [hP]; exact this
  have hpv : ∀ i, i < F.length → pv (F.getD i []) = ps.getD i 0 := fun i hi => by rw [isH_pv hF, getD_map pv F i hi 0 []]
  have hm1 := idxN_mul (F := F) (G := G) (fun i hi => by rw [hpv i hi]; exact hF.pos i hi) (fun i hi => by rw [hpv i hi]; exact (hpq i hi).2) F.length (Nat.le_refl _)
  rw [idxN_prP hF _ (Nat.le_refl _), idxN_prP hF _ (Nat.le_refl _), ← hP] at hm1
  rw [tG, hlen, dF.1] at dG
  rw [hlen] at pG
  have hpos := dF.2
  generalize prP P F F.length = A at *
  generalize prP P G F.length = B at *
  have hB : B = (prodL ks).natAbs * A := by
    generalize (prodL ks).natAbs = Q at *
    have h1 : (B.natAbs : Int) = (Q : Int) * (A.natAbs : Int) := by rw [dG, Int.natCast_mul]
    rw [Int.natAbs_of_nonneg (by omega), Int.natAbs_of_nonneg (by omega)] at h1
    exact h1
  rw [hB] at hm1
  exact Int.eq_of_mul_eq_mul_right (by omega) hm1
end Go.Proofs.YthmhmkkcjlgbjaaGreatDoor
/- facts on described matrices -/
namespace Go.Proofs.YthmhmkkcjlgbjaaGreatDoor
open Go.RowKit Go.Sort
open Hnf (Span V)
theorem bC_mono2 {k : Nat} : ∀ {c c' L L' : Nat}, c ≤ c' → L ≤ L' → bC L k c ≤ bC L' k c' := by
  have h1 : ∀ c L L', L ≤ L' → bC L k c ≤ bC L' k c := fun c L L' h => by
    induction c with
    | zero => exact Nat.le_refl _
    | succ c ih => rw [bC, bC]; have := Nat.mul_le_mul ih (show L + 2 ≤ L' + 2 by omega); omega
  intro c c' L L' hc hL
  refine Nat.le_trans (h1 c L L' hL) ?_
  obtain ⟨d, rfl⟩ : ∃ d, c' = c + d := ⟨c' - c, by omega⟩
  clear hc
  induction d with
  | zero => exact Nat.le_refl _
  | succ d ih => exact Nat.le_trans ih (bC_le L' k (c + d)).2
theorem bC_5 : 13 * (bC 5 30 5 + 2) < LIM := by decide
theorem bC_lim {L c : Nat} (hL : L ≤ 5) (hc : c ≤ 5) : 13 * (bC L 30 c + 2) < LIM := by
  have := bC_mono2 (k := 30) hc hL
  have := bC_5
  omega
theorem check_rect {M : Mx} {n : Nat} (hl : M.length ≤ 12) (hn : n ≤ 12) (hR : Rect n M) (he : ∀ r ∈ M, ∀ z ∈ r, -1000000000 ≤ z ∧ z ≤ 1000000000) : checkM M = 0 := by
  unfold checkM
  rw [if_neg (by omega)]
  refine chk_all _ _ fun j hj => ?_
  have hj' := hR _ (List.getElem_mem hj)
  have h0 : (M.getD 0 []).length = n := by rw [getD_get (by omega)]; exact hR _ (List.getElem_mem _)
  have ha : M[j].any grt = false := by
    cases h : M[j].any grt
    · rfl
    · obtain ⟨z, hz, hg⟩ := List.any_eq_true.1 h
      have := he _ (List.getElem_mem hj) z hz
      unfold grt at hg
      have := of_decide_eq_true hg
      omega
  unfold chkR
  rw [if_neg (by omega), if_neg (by omega), ha]; rfl
theorem ncols_of {M : Mx} {n : Nat} (hR : Rect n M) (h0 : 0 < M.length) : ncols M = n := by
  unfold ncols; rw [getD_get h0]; exact hR _ (List.getElem_mem _)
theorem ncols_le {M : Mx} {n : Nat} (hR : Rect n M) : ncols M ≤ n := by
  rcases Nat.eq_zero_or_pos M.length with h | h
  · rw [List.eq_nil_of_length_eq_zero h]; exact Nat.zero_le _
  · rw [ncols_of hR h]; exact Nat.le_refl _
theorem rect_ncols {M : Mx} {n : Nat} (hR : Rect n M) : Rect (ncols M) M := fun r hr => by
  rw [ncols_of hR (List.length_pos_of_mem hr)]; exact hR r hr
theorem gridM_rect {M : Mx} (h : GridM M) : Rect (ncols M) M ∧ ncols M ≤ 4 ∧ M.length ≤ 4 ∧ checkM M = 0 := by
  obtain ⟨hl, n, _, hn, hR, he⟩ := h
  exact ⟨rect_ncols hR, Nat.le_trans (ncols_le hR) hn, hl, check_rect (by omega) (by omega) hR fun r hr z hz => by have := he r hr z hz; omega⟩
theorem isH_len {n : Nat} {ps : List Nat} {F : Mx} (h : IsH n ps F) (hn : n ≤ 4) : F.length ≤ 4 := by
  rcases Nat.lt_or_ge 4 F.length with h' | h'
  · have a0 := h.inc 0 1 (by omega) (by omega)
    have a1 := h.inc 1 2 (by omega) (by omega)
    have a2 := h.inc 2 3 (by omega) (by omega)
    have a3 := h.inc 3 4 (by omega) (by omega)
    have a4 := h.lt 4 (by omega)
    omega
  · exact h'
/-- The form of a described matrix is right, in normal form, and within the limit. -/
theorem grid_form {M F : Mx} (h : GridM M) (hF : HnfOf (ncols M) M F) : smallM F = true ∧ checkM F = 0 ∧ isF F = true ∧ F.length ≤ 4 ∧ Rect (ncols M) F := by
  obtain ⟨hR, hn, hl, _⟩ := gridM_rect h
  have hb := hnf_small hn (fun r hr z hz => by obtain ⟨_, n, _, _, _, he⟩ := h; have := he r hr z hz; omega) hF
  obtain ⟨⟨ps, hI⟩, _, _⟩ := hF
  have hb2 : ∀ r ∈ F, ∀ z ∈ r, -1000000000 ≤ z ∧ z ≤ 1000000000 := fun r hr z hz => by
    obtain ⟨i, hi, rfl⟩ := List.getElem_of_mem hr
    obtain ⟨j, hj, rfl⟩ := List.getElem_of_mem hz
    have := hb i hi j
    unfold eM at this
    rw [getD_get hi [], getD_get hj 0] at this
    omega
  have h4 := isH_len hI hn
  exact ⟨List.all_eq_true.2 fun r hr => smallB_iff.2 (hb2 r hr), check_rect (by omega) (by omega) hI.rect hb2, isH_isF hI, h4, hI.rect⟩
def scaleR (k : Int) (r : List Int) : List Int := r.map fun z => k * z
theorem scale_vr (k : Int) (r : List Int) : vr (scaleR k r) = mulV k (vr r) := by
  funext j
  show (scaleR k r).getD j 0 = k * r.getD j 0
  unfold scaleR
  rw [List.getD_eq_getElem?_getD, List.getD_eq_getElem?_getD, List.getElem?_map]
  cases r[j]? <;> simp
theorem scale_lat {ks : List Int} {M : Mx} : latM (List.zipWith scaleR ks M) = List.zipWith mulV ks (latM M) := by
  unfold latM
  rw [List.map_zipWith, List.zipWith_map_right]
  congr 1
  funext k r
  exact scale_vr k r
theorem sub_facts {M F : Mx} {ks : List Int} (h : GridM M) (hl : ks.length = M.length) (hk : ∀ k ∈ ks, k ≠ 0 ∧ -7 ≤ k ∧ k ≤ 7) (hF : HnfOf (ncols M) M F) :
    pairE F (List.zipWith scaleR ks M) = 0 ∧ inclB F (List.zipWith scaleR ks M) = true ∧ 13 * (bC (List.zipWith scaleR ks M).length 30 (ncols (List.zipWith scaleR ks M)) + 2) < LIM ∧
      ∀ G, HnfOf (ncols (List.zipWith scaleR ks M)) (List.zipWith scaleR ks M) G → F.length ≤ G.length ∧ (F.length = M.length → idxN F G F.length = (prodL ks).natAbs) := by
  obtain ⟨hR, hn, hm, _⟩ := gridM_rect h
  obtain ⟨_, hcF, hiF, hF4, hRF⟩ := grid_form h hF
  obtain ⟨S, hS⟩ : ∃ S, S = List.zipWith scaleR ks M := ⟨_, rfl⟩
  rw [← hS]
  have hSl : S.length = M.length := by rw [hS, List.length_zipWith]; omega
  have hmem : ∀ r ∈ S, r.length = ncols M ∧ ∀ z ∈ r, -1000000000 ≤ z ∧ z ≤ 1000000000 := fun r hr => by
    rw [hS] at hr
    obtain ⟨i, hi, rfl⟩ := List.getElem_of_mem hr
    rw [List.length_zipWith] at hi
    rw [List.getElem_zipWith]
    refine ⟨by unfold scaleR; rw [List.length_map]; exact hR _ (List.getElem_mem _), fun z hz => ?_⟩
    obtain ⟨y, hy, rfl⟩ := List.mem_map.1 hz
    obtain ⟨_, _, _, _, _, he⟩ := h
    have h1 := he _ (List.getElem_mem _) y hy
    have h2 := (hk ks[i] (List.getElem_mem _)).2
    generalize ks[i] = k at *
    have : (k * y).natAbs ≤ 7 * 20 := by rw [Int.natAbs_mul]; exact Nat.mul_le_mul (by omega) (by omega)
    omega
  have hRS : Rect (ncols M) S := fun r hr => (hmem r hr).1
  have hcS := check_rect (by omega) (by omega) hRS fun r hr => (hmem r hr).2
  have hlat : latM S = List.zipWith mulV ks (latM M) := by rw [hS, scale_lat]
  have hnS : ncols S = ncols M := by
    rcases Nat.eq_zero_or_pos M.length with h0 | h0
    · rw [List.eq_nil_of_length_eq_zero h0, List.eq_nil_of_length_eq_zero (hSl.trans h0)]
    · exact ncols_of hRS (by omega)
  refine ⟨?_, ?_, bC_lim (by omega) (by omega), fun G hG => ?_⟩
  · unfold pairE
    rw [if_pos hcF, if_pos hcS, if_pos hiF, if_neg]
    rintro ⟨a, _, c⟩
    exact c ((ncols_of hRF a).trans hnS.symm)
  · refine inclB_iff.2 fun x hx => ?_
    obtain ⟨⟨ps, hI⟩, _, h2⟩ := hF
    refine zeroB_iff.2 ((redX_zero hI (hRS x hx)).2 ?_)
    have : vr x ∈ latM S := List.mem_map.2 ⟨x, hx, rfl⟩
    rw [hlat] at this
    exact (scale_span _ this).trans h2
  · rw [hnS] at hG
    exact sub_law hn hm hl (fun k hk' => (hk k hk').1) hlat hF hG
theorem Int07_any {n : Int} (h0 : -9223372036854775808 ≤ n) (h1 : n ≤ 9223372036854775807) {w : World} (hL : Laid w) :
    Calls Tryz.prog 15 #[.int .i64 n] w fun e w' => e = .returned (I n) ∧ Ext w w' := by
  have H := Lib.hid (Itoa_any h0 h1 hL)
  clear hL
  go_enter Tryz.func15, Tryz.ntmps15
  go_wp2_with fail
  refine H.out.mono ?_
  rintro e w1 ⟨rfl, hE⟩
  go_wp2_with fail
  go_ret
  exact ⟨rfl, hE⟩
end Go.Proofs.YthmhmkkcjlgbjaaGreatDoor
