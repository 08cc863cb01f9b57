/- Part 14 of the proof of the claim: contracts of the functions that it reaches, and plain laws; no condition. -/
import Derived.Test.YtnmmglnadnfoiaaGreatDoorV13
import Derived.Test.YtnmmglnadnfoiaaGreatDoorV11
import Derived.Test.YtnmmglnadnfoiaaGreatDoorV12
/- smith: lead, big, unit, small. -/
namespace Go.Proofs.YtnmmglnadnfoiaaGreatDoor
open Go.RowKit Go.Sort
theorem sleadC_any (z : Int) (w : World) : Calls Tryz.prog 99 #[I z] w fun e w' => e = .returned (.bool (decide (z ≠ 0))) ∧ Ext w w' := by
  have hitz : (Lib.itoa z == [48]) = decide (z = 0) := itoa_eq_zero z
  by_cases h : z = 0
  · rw [decide_eq_true h] at hitz
    have hb : decide (z ≠ 0) = false := decide_eq_false (by simpa using h)
    rw [hb]
    clear h hb
    go_enter Tryz.func99, Tryz.ntmps99
    go_wp2
    go_ret
    exact ⟨rfl, Ext.refl _⟩
  · rw [decide_eq_false h] at hitz
    have hb : decide (z ≠ 0) = true := decide_eq_true h
    rw [hb]
    have hitz2 : (Lib.itoa z != [48]) = true := by simp [bne, hitz]
    clear h hb
    go_enter Tryz.func99, Tryz.ntmps99
    go_wp2
    go_ret
    exact ⟨rfl, Ext.refl _⟩
theorem slead_any {w : World} {sa : Option Addr} {gb go cap : Nat} {l : List Int} (hS : Sl w sa gb go (ss l)) (hl : l.length ≤ 1000000) :
    Calls Tryz.prog 62 #[.slice sa l.length cap] w fun e w' => e = .returned (.int .i64 (pv l : Nat)) ∧ Ext w w' := by
  have hix := index_slead (cap := cap) (p := fun j => decide (l.getD j 0 ≠ 0)) (k := pvI l) (w := w) hS (by rw [ss_length]; exact hl) (fun j hj W hW => by
    have hj' : j < l.length := by simpa using hj
    have e : (ss l)[j] = I (l.getD j 0) := by rw [getD_get hj']; simp [ss]
    rw [e]; exact sleadC_any _ W) (by rw [ss_length]; exact pvI_ix l)
  rw [ss_length] at hix
  have Hix := Lib.hid hix
  clear hix hS
  by_cases h : pv l < l.length
  · have e : pvI l = (pv l : Int) := by unfold pvI; rw [if_pos h]
    rw [e] at Hix
    clear e h
    generalize pv l = p at *
    go_enter Tryz.func62, Tryz.ntmps62
    go_wp2_with fail
    refine Hix.out.mono ?_
    rintro e w1 ⟨rfl, hE1⟩
    go_wp2_with fail
    go_ret
    exact ⟨rfl, hE1⟩
  · have e : pvI l = -1 := by unfold pvI; rw [if_neg h]
    have e2 : pv l = l.length := by have := pv_le l; omega
    rw [e] at Hix
    rw [e2]
    clear e h e2
    go_enter Tryz.func62, Tryz.ntmps62
    go_wp2_with fail
    refine Hix.out.mono ?_
    rintro e w1 ⟨rfl, hE1⟩
    go_wp2_with fail
    go_ret
    exact ⟨rfl, hE1⟩
theorem GrX.lt {B : Nat} {w : World} {v : Value} {F : Mx} {ad : List (Nat × Nat)} (h : GrX B w v F ad) : ∀ i (_ : i < ad.length) (_ : i < F.length), 0 < F[i].length → B ≤ ad[i].1 ∧ ad[i].1 < w.heap.size :=
  fun i a b c => (h.row i b a c).lt
theorem IntsV.xv {B : Nat} {w : World} {v : Value} {l : List Int} (h : IntsV B w v l) (h0 : l.length = 0 → v = .slice none 0 0) : ∃ g c, v = xv l.length g c ∧ (0 < l.length → OwnV 106 B w g c (ss l)) := by
  rcases Nat.eq_zero_or_pos l.length with e | e
  · exact ⟨0, 0, by rw [h0 e, e, xv_zero], fun h => by omega⟩
  · rcases h.2 with ⟨rfl, h1⟩ | ⟨g, cap, cur, rfl, hb, hg, hn, hm, hs, ht⟩
    · omega
    · refine ⟨g, cap, by rw [xv_pos e], fun _ => ?_⟩
      unfold OwnV; rw [ss_length]; exact h
set_option maxRecDepth 100000 in
set_option maxHeartbeats 1000000 in
theorem sbig_any {w : World} {v : Value} {M : Mx} (hM : MatR w v M) (hl : M.length ≤ 1000000) (hn : ∀ r ∈ M, r.length ≤ 1000000) (h64 : ∀ r ∈ M, ∀ z ∈ r, I64 z) (hL : Laid w) :
    Calls Tryz.prog 60 #[v] w fun e w' => ∃ v' ad, e = .returned v' ∧ GrX w.heap.size w' v' M ad ∧ Ext w w' := by
  obtain ⟨sa, gb, go, cap, vs, rfl, hcap, hvl, hS, hr⟩ := hM
  have HS := Lib.hid hS
  have HV := Lib.hid hvl
  have HR := Lib.hid hr
  have HN := Lib.hid hn
  have H64 := Lib.hid h64
  have HL := Lib.hid hL
  clear hS hvl hr hn h64 hL
  go_enter Tryz.func60, Tryz.ntmps60
  go_wp2_with fail
  go_loopw [3, 11] (fun out idx wr => ∃ (i : Nat) (ad : List (Nat × Nat)), i ≤ M.length ∧ idx = .int .i64 i ∧ Hid (GrX w.heap.size wr out (M.take i) ad) ∧ Ext w wr) (fun _ idx _ => M.length - (intOf idx).toNat)
  case atStart => exact ⟨0, [], by omega, by go_num, Lib.hid (GrX.nil _ _), Ext.refl _⟩
  case round =>
    obtain ⟨i, ad, hi', rfl, hV, hE⟩ := hrel
    generalize wr = X at *
    by_cases hlt : i < M.length
    · have hii : (i : Int) < (M.length : Int) := by omega
      obtain rfl := HS.out.addr (by rw [HV.out]; omega)
      obtain ⟨sr, br, or, cr, hrow, hrc, hSr⟩ := MatR.row HS.out HV.out HR.out hlt
      obtain ⟨r, hr⟩ : ∃ r, r = M[i] := ⟨_, rfl⟩
      have Hr64 := Lib.hid (H64.out _ (List.getElem_mem hlt))
      have hrn := HN.out _ (List.getElem_mem hlt)
      have Hsn := Lib.hid (take_snocM hlt)
      rw [← hr] at hrow hrc hSr Hr64 hrn Hsn
      have hrow' := hE.cell hrow
      have HSr := Lib.hid (hSr.ext hE)
      have Hil := Lib.hid (show (M.take i).length = i by rw [List.length_take]; omega)
      have Hlt := Lib.hid hV.out.lt
      have hXw := hE.size
      clear hrow hSr hr
      go_wp2_with fail
      go_loopw [6, 17] (fun lv jdx wr => ∃ j : Nat, j ≤ r.length ∧ jdx = .int .i64 j ∧ Hid (IntsV X.heap.size wr lv (r.take j)) ∧ Hid (j = 0 → lv = .slice none 0 0) ∧ Ext X wr) (fun _ jdx _ => r.length - (intOf jdx).toNat)
      case atStart => exact ⟨0, by omega, by go_num, Lib.hid (IntsV.nil _ _), Lib.hid (fun _ => rfl), Ext.refl _⟩
      case round =>
        obtain ⟨j, hj, rfl, hO, h0, hE2⟩ := hrel
        generalize wr = Y at *
        by_cases hjl : j < r.length
        · have hji : (j : Int) < (r.length : Int) := by omega
          obtain ⟨z, hz⟩ : ∃ z, z = r[j] := ⟨_, rfl⟩
          have hcz := hE2.cell (HSr.out.cell j (.int .i64 z) (by rw [hz]; exact is_get hjl))
          obtain rfl := HSr.out.addr (by simp; omega)
          have hz64 := Hr64.out z (by rw [hz]; exact List.getElem_mem hjl)
          have hof := Lib.hid (wholeOf_any (n := z) (w := Y) hz64.1 hz64.2 (HL.out.ext (hE.trans hE2)))
          have Hjl := Lib.hid (show (r.take j).length = j by rw [List.length_take]; omega)
          have Hsj := Lib.hid (show r.take (j + 1) = r.take j ++ [z] by rw [List.take_succ_eq_append_getElem hjl, hz])
          have hXY := hE2.size
          clear hz hz64
          go_wp2_with (first
            | (go_at_call 96; refine hof.out.mono ?_; rintro e W ⟨rfl, hW⟩; have hYW := hW.size)
            | (at_builtin; refine app_ints rfl _ _ rfl rfl ((hO.out.ext hW).ext ((Ext.refl _).alloc _)) rfl (b := W.heap.size) (z := z) (by go_simp) (by rw [Hjl.out]; omega) (by simp; omega) ?_; intro gg cap2 w8 hO8 hB8 hG8; rw [Hjl.out] at hO8 ⊢; rw [← Hsj.out] at hO8))
          have hE8 : Ext X w8 := Below.trans ((hE2.trans hW).alloc (.cells #[I z] 106)) hB8
          have HO8 := Lib.hid hO8
          clear hG8 hB8 hO8
          go_wp2_with fail
          go_roundw
          case rel => exact ⟨j + 1, by omega, by go_num, HO8, Lib.hid (fun h => by omega), hE8⟩
          case measure => simp [intOf] <;> omega
        · have hje : j = r.length := by omega
          have htk : r.take j = r := List.take_of_length_le (by omega)
          rw [htk] at hO
          obtain ⟨g0, c0, hxv, hO0⟩ := hO.out.xv (fun h => h0.out (by omega))
          have HO0 := Lib.hid hO0
          subst hxv
          obtain ⟨xa, xl, xk, hxv⟩ := xv_slice r.length g0 c0
          have Hxv := Lib.hid hxv
          rw [hxv]
          have hXY := hE2.size
          have Hne := Lib.hid (show 0 < r.length → ∀ i (h : i < ad.length) (h' : i < (M.take _).length), 0 < (M.take _)[i].length → ad[i].1 ≠ g0 from fun h i a b c => by
            have h1 := (HO0.out h).lt.1
            have h2 := (Hlt.out i a b c).2
            omega)
          clear hO0 hxv hje htk h0 hO
          go_wp2_with (at_builtin; refine app_grid rfl _ _ rfl (B := w.heap.size) rfl ((hV.out.ext hE2).ext ((Ext.refl _).alloc _)) rfl (b := Y.heap.size) (r := r) (g0 := g0) (c0 := c0) (by rw [Hxv.out]; go_simp) (fun h => ((HO0.out h).mono hXw).ext ((Ext.refl _).alloc _)) Hne.out (by rw [Hil.out]; omega) (by simp; omega) ?_; intro gg cap2 w8 hO8 hB8 hG8; rw [Hil.out, ← Hsn.out] at hO8; rw [Hil.out])
          have hE8 : Ext w w8 := Below.trans ((hE.trans hE2).alloc (.cells #[.slice xa xl xk] 103)) hB8
          have HO8 := Lib.hid hO8
          clear hG8 hB8 hO8
          go_wp2_with fail
          go_roundw
          case rel => exact ⟨i + 1, _, by omega, by go_num, HO8, hE8⟩
          case measure => simp [intOf] <;> omega
    · have hie : i = M.length := by omega
      subst hie
      go_wp2_with fail
      go_ret
      have := hV.out
      rw [List.take_length] at this
      exact ⟨_, ad, rfl, this, hE⟩
end Go.Proofs.YtnmmglnadnfoiaaGreatDoor
/- Plain: the numbers of a Hermite normal form are small if those of the matrix are: by minors of at most four rows. -/
namespace Go.Proofs.YtnmmglnadnfoiaaGreatDoor
open Hnf (V Span Ech Red)
theorem lin_zero {M : List V} {f : V → Int} (h0 : f (fun _ => 0) = 0) (h1 : ∀ v q u, f (Hnf.sub v q u) = f v - q * f u) (h : ∀ r ∈ M, f r = 0) {v : V} (hv : Span M v) : f v = 0 := by
  induction hv with
  | zero => exact h0
  | step q _ hr ih => rw [h1, ih, h _ hr]; simp
/-- A linear form that is not zero on the lattice is not zero at a row. -/
theorem lin_row {M : List V} {f : V → Int} (h0 : f (fun _ => 0) = 0) (h1 : ∀ v q u, f (Hnf.sub v q u) = f v - q * f u) {v : V} (hv : Span M v) (hne : f v ≠ 0) : ∃ r ∈ M, f r ≠ 0 :=
  Classical.byContradiction fun hc => hne (lin_zero h0 h1 (fun r hr => Classical.byContradiction fun h => hc ⟨r, hr, h⟩) hv)
def det2 (x y : V) (p q : Nat) : Int := x p * y q - x q * y p
def det3 (x y z : V) (p q s : Nat) : Int := x p * det2 y z q s - x q * det2 y z p s + x s * det2 y z p q
def det4 (x y z t : V) (p q s u : Nat) : Int := x p * det3 y z t q s u - x q * det3 y z t p s u + x s * det3 y z t p q u - x u * det3 y z t p q s
/-- The sum of multiples. -/
def comb (a : Nat → Int) (w : Nat → V) : Nat → V
  | 0 => fun _ => 0
  | k + 1 => Hnf.sub (comb a w k) (-(a k)) (w k)
theorem comb_span {M : List V} {a : Nat → Int} {w : Nat → V} : ∀ {r : Nat}, (∀ k, k < r → Span M (w k)) → Span M (comb a w r)
  | 0, _ => .zero
  | r + 1, h => (comb_span (r := r) fun k hk => h k (by omega)).sub _ (h r (by omega))
theorem comb_out {a : Nat → Int} {w : Nat → V} {j : Nat} : ∀ {r : Nat}, (∀ k, k < r → w k j = 0) → comb a w r j = 0
  | 0, _ => rfl
  | r + 1, h => by simp only [comb, Hnf.sub]; rw [comb_out (r := r) (fun k hk => h k (by omega)), h r (by omega)]; simp
theorem comb_at {a : Nat → Int} {w : Nat → V} {j s : Nat} {d : Int} : ∀ {r : Nat}, s < r → (∀ k, k < r → w k j = if k = s then d else 0) → comb a w r j = a s * d
  | 0, hs, _ => by omega
  | r + 1, hs, h => by
    simp only [comb, Hnf.sub]
    by_cases e : s = r
    · subst e
      rw [comb_out (r := s) (fun k hk => by rw [h k (by omega), if_neg (by omega)]), h s (by omega), if_pos rfl]; simp [Int.neg_mul]
    · rw [comb_at (r := r) (s := s) (d := d) (by omega) (fun k hk => h k (by omega)), h r (by omega), if_neg (by omega)]; simp
theorem comb_abs {a : Nat → Int} {w : Nat → V} {j A C : Nat} : ∀ {r : Nat}, (∀ k, k < r → (a k).natAbs ≤ A) → (∀ k, k < r → (w k j).natAbs ≤ C) → (comb a w r j).natAbs ≤ r * (A * C)
  | 0, _, _ => by simp [comb]
  | r + 1, h, h' => by
    have ih := comb_abs (r := r) (j := j) (fun k hk => h k (by omega)) (fun k hk => h' k (by omega))
    have h2 : (a r * w r j).natAbs ≤ A * C := by rw [Int.natAbs_mul]; exact Nat.mul_le_mul (h r (by omega)) (h' r (by omega))
    have e : (r + 1) * (A * C) = r * (A * C) + A * C := Nat.succ_mul _ _
    simp only [comb, Hnf.sub, Int.neg_mul]
    omega
/-- Vectors of the lattice that are a multiple d of the units on the pivots. -/
structure Duals (M : List V) (ps : List Nat) (r C : Nat) (d : Int) (w : Nat → V) : Prop where
  ne : d ≠ 0
  span : ∀ k, k < r → Span M (w k)
  at' : ∀ k, k < r → ∀ s, s < r → w k (ps.getD s 0) = if k = s then d else 0
  abs : ∀ k, k < r → ∀ j, (w k j).natAbs ≤ C
theorem wps_mem {ps : List Nat} {F : Mx} (hl : ps.length = F.length) {g : Nat × V} (hg : g ∈ wps ps F) : ∃ i, i < F.length ∧ g = (ps.getD i 0, vr (F.getD i [])) := by
  obtain ⟨x, hx, rfl⟩ := List.mem_map.1 hg
  obtain ⟨i, hi, hxe⟩ := List.getElem_of_mem hx
  have hi' : i < ps.length ∧ i < F.length := by simp at hi; omega
  obtain rfl : x = (ps[i]'hi'.1, F[i]'hi'.2) := by rw [← hxe]; exact List.getElem_zip
  exact ⟨i, hi'.2, by rw [getD_get hi'.1, getD_get hi'.2]⟩
/-- What vanishes on the pivots vanishes. -/
theorem pivots_zero {n : Nat} {ps : List Nat} {F : Mx} (h : IsH n ps F) {v : V} (hv : Span (latM F) v) (hz : ∀ i, i < F.length → v (ps.getD i 0) = 0) : ∀ j, v j = 0 := by
  rcases Hnf.first v with h0 | ⟨j, hj, hz'⟩
  · exact h0
  · exfalso
    rw [← wps_rows h.len] at hv
    obtain ⟨g, hg, e, _⟩ := h.ech.lead hv hj hz'
    obtain ⟨i, hi, rfl⟩ := wps_mem h.len hg
    exact hj (by rw [← e]; exact hz i hi)
theorem pivot_dvd {n : Nat} {ps : List Nat} {F : Mx} (h : IsH n ps F) {v : V} (hv : Span (latM F) v) {k : Nat} {d : Int} (hd : d ≠ 0) (hk : k < F.length) (hz : ∀ s, s < F.length → v (ps.getD s 0) = if k = s then d else 0) : eM F k (ps.getD k 0) ∣ d := by
  rcases Hnf.first v with h0 | ⟨j, hj, hz'⟩
  · exact absurd (h0 (ps.getD k 0)) (by rw [hz k hk, if_pos rfl]; exact hd)
  · rw [← wps_rows h.len] at hv
    obtain ⟨g, hg, e, hdv⟩ := h.ech.lead hv hj hz'
    obtain ⟨i, hi, rfl⟩ := wps_mem h.len hg
    simp only at e hdv
    subst e
    have := hz i hi
    by_cases e : k = i
    · subst e
      rw [if_pos rfl] at this
      rw [this] at hdv
      exact hdv
    · rw [if_neg e] at this; exact absurd this hj
theorem duals_small {n C : Nat} {ps : List Nat} {F : Mx} {d : Int} {w : Nat → V} (h : IsH n ps F) (hD : Duals (latM F) ps F.length C d w) (i : Nat) (hi : i < F.length) (j : Nat) : (eM F i j).natAbs ≤ F.length * C := by
  have hpk : ∀ k, k < F.length → (eM F k (ps.getD k 0)).natAbs ≤ d.natAbs := fun k hk => by
    obtain ⟨c, hc⟩ := pivot_dvd h (hD.span k hk) hD.ne hk (hD.at' k hk)
    have := hD.ne
    have hc0 : c ≠ 0 := by intro e; subst e; simp at hc; exact this hc
    rw [hc, Int.natAbs_mul]
    exact Nat.le_mul_of_pos_right _ (by omega)
  have hik : ∀ k, k < F.length → (eM F i (ps.getD k 0)).natAbs ≤ d.natAbs := fun k hk => by
    have := hpk k hk
    rcases Nat.lt_trichotomy i k with hlt | rfl | hgt
    · have := h.red i k hlt hk; omega
    · exact this
    · rw [h.left i hi _ (h.inc k i hgt hi)]; simp
  have hF : Span (latM F) (vr (F.getD i [])) := .mem (by rw [getD_get hi]; exact List.mem_map.2 ⟨F[i], List.getElem_mem hi, rfl⟩)
  have hz := pivots_zero h (v := Hnf.sub (Hnf.sub (fun _ => 0) (-d) (vr (F.getD i []))) 1 (comb (fun k => eM F i (ps.getD k 0)) w F.length)) ((Span.zero.sub (-d) hF).sub 1 (comb_span hD.span)) (by
    intro s hs
    simp only [Hnf.sub]
    rw [comb_at (s := s) (d := d) hs (fun k hk => hD.at' k hk s hs)]
    show 0 - -d * eM F i (ps.getD s 0) - 1 * (eM F i (ps.getD s 0) * d) = 0
    grind) j
  have e : d * eM F i j = comb (fun k => eM F i (ps.getD k 0)) w F.length j := by
    simp only [Hnf.sub] at hz
    have : 0 - -d * eM F i j - 1 * comb (fun k => eM F i (ps.getD k 0)) w F.length j = 0 := hz
    grind
  have hb := comb_abs (a := fun k => eM F i (ps.getD k 0)) (w := w) (j := j) (A := d.natAbs) (C := C) (r := F.length) hik (fun k hk => hD.abs k hk j)
  rw [← e, Int.natAbs_mul] at hb
  have e2 : F.length * (d.natAbs * C) = d.natAbs * (F.length * C) := by grind
  rw [e2] at hb
  exact Nat.le_of_mul_le_mul_left hb (by have := hD.ne; omega)
theorem mul_abs {a b : Int} {A B : Nat} (h : a.natAbs ≤ A) (h' : b.natAbs ≤ B) : (a * b).natAbs ≤ A * B := by rw [Int.natAbs_mul]; exact Nat.mul_le_mul h h'
theorem det2_abs {x y : V} (hx : ∀ j, (x j).natAbs ≤ 20) (hy : ∀ j, (y j).natAbs ≤ 20) (p q : Nat) : (det2 x y p q).natAbs ≤ 800 := by
  have h1 := mul_abs (hx p) (hy q)
  have h2 := mul_abs (hx q) (hy p)
  unfold det2; omega
theorem det3_abs {x y z : V} (hx : ∀ j, (x j).natAbs ≤ 20) (hy : ∀ j, (y j).natAbs ≤ 20) (hz : ∀ j, (z j).natAbs ≤ 20) (p q s : Nat) : (det3 x y z p q s).natAbs ≤ 48000 := by
  have h1 := mul_abs (hx p) (det2_abs hy hz q s)
  have h2 := mul_abs (hx q) (det2_abs hy hz p s)
  have h3 := mul_abs (hx s) (det2_abs hy hz p q)
  unfold det3; omega
theorem det4_abs {x y z t : V} (hx : ∀ j, (x j).natAbs ≤ 20) (hy : ∀ j, (y j).natAbs ≤ 20) (hz : ∀ j, (z j).natAbs ≤ 20) (ht : ∀ j, (t j).natAbs ≤ 20) (p q s u : Nat) : (det4 x y z t p q s u).natAbs ≤ 3840000 := by
  have h1 := mul_abs (hx p) (det3_abs hy hz ht q s u)
  have h2 := mul_abs (hx q) (det3_abs hy hz ht p s u)
  have h3 := mul_abs (hx s) (det3_abs hy hz ht p q u)
  have h4 := mul_abs (hx u) (det3_abs hy hz ht p q s)
  unfold det4; omega
theorem span_of_eq {M : List V} {v u : V} (h : Span M v) (e : ∀ j, u j = v j) : Span M u := by rw [show u = v from funext e]; exact h
theorem lt2 {s : Nat} (h : s < 2) : s = 0 ∨ s = 1 := by omega
theorem lt3 {s : Nat} (h : s < 3) : s = 0 ∨ s = 1 ∨ s = 2 := by omega
theorem lt4 {s : Nat} (h : s < 4) : s = 0 ∨ s = 1 ∨ s = 2 ∨ s = 3 := by omega
theorem duals0 (M : List V) (ps : List Nat) : Duals M ps 0 3840000 1 (fun _ _ => 0) := ⟨by decide, fun k h => by omega, fun k h => by omega, fun k h => by omega⟩
theorem duals1 {M : List V} {p : Nat} {f : V} (hM : ∀ r ∈ M, ∀ j, (r j).natAbs ≤ 20) (hf : Span M f) (h : f p ≠ 0) : ∃ d w, Duals M [p] 1 3840000 d w := by
  obtain ⟨x, hx, hne⟩ := lin_row (f := fun v => v p) rfl (fun v q u => rfl) hf h
  refine ⟨x p, fun _ => x, hne, fun k _ => .mem hx, fun k hk s hs => ?_, fun k _ j => by have := hM x hx j; omega⟩
  obtain rfl : k = 0 := by omega
  obtain rfl : s = 0 := by omega
  rw [if_pos rfl]; rfl
theorem duals2 {M : List V} {p q : Nat} {f g : V} (hM : ∀ r ∈ M, ∀ j, (r j).natAbs ≤ 20) (hf : Span M f) (hg : Span M g) (h : det2 f g p q ≠ 0) : ∃ d w, Duals M [p, q] 2 3840000 d w := by
  obtain ⟨x, hx, h⟩ := lin_row (f := fun v => det2 v g p q) (by simp [det2]) (fun v k u => by simp only [det2, Hnf.sub]; grind) hf h
  obtain ⟨y, hy, h⟩ := lin_row (f := fun v => det2 x v p q) (by simp [det2]) (fun v k u => by simp only [det2, Hnf.sub]; grind) hg h
  have bx := hM x hx
  have bY := hM y hy
  refine ⟨det2 x y p q, fun k => if k = 0 then fun j => det2 x y j q else fun j => det2 x y p j, h, fun k hk => ?_, fun k hk s hs => ?_, fun k hk j => ?_⟩
  · rcases lt2 hk with rfl | rfl
    · exact span_of_eq ((Span.zero.step (-(y q)) hx).step (x q) hy) fun j => by simp [det2, Hnf.sub]; grind
    · exact span_of_eq ((Span.zero.step (y p) hx).step (-(x p)) hy) fun j => by simp [det2, Hnf.sub]; grind
  · rcases lt2 hk with rfl | rfl <;> rcases lt2 hs with rfl | rfl <;> simp [det2] <;> grind
  · rcases lt2 hk with rfl | rfl
    · have := det2_abs bx bY j q; simp; omega
    · have := det2_abs bx bY p j; simp; omega
theorem duals3 {M : List V} {p q s : Nat} {f g e : V} (hM : ∀ r ∈ M, ∀ j, (r j).natAbs ≤ 20) (hf : Span M f) (hg : Span M g) (he : Span M e) (h : det3 f g e p q s ≠ 0) : ∃ d w, Duals M [p, q, s] 3 3840000 d w := by
  obtain ⟨x, hx, h⟩ := lin_row (f := fun v => det3 v g e p q s) (by simp [det3]) (fun v k u => by simp only [det3, Hnf.sub]; grind) hf h
  obtain ⟨y, hy, h⟩ := lin_row (f := fun v => det3 x v e p q s) (by simp [det3, det2]) (fun v k u => by simp only [det3, det2, Hnf.sub]; grind) hg h
  obtain ⟨z, hz, h⟩ := lin_row (f := fun v => det3 x y v p q s) (by simp [det3, det2]) (fun v k u => by simp only [det3, det2, Hnf.sub]; grind) he h
  have bx := hM x hx
  have bY := hM y hy
  have bz := hM z hz
  refine ⟨det3 x y z p q s, fun k => if k = 0 then fun j => det3 x y z j q s else if k = 1 then fun j => det3 x y z p j s else fun j => det3 x y z p q j, h, fun k hk => ?_, fun k hk t ht => ?_, fun k hk j => ?_⟩
  · rcases lt3 hk with rfl | rfl | rfl
    · exact span_of_eq (((Span.zero.step (-(det2 y z q s)) hx).step (det2 x z q s) hy).step (-(det2 x y q s)) hz) fun j => by simp [det3, det2, Hnf.sub]; grind
    · exact span_of_eq (((Span.zero.step (det2 y z p s) hx).step (-(det2 x z p s)) hy).step (det2 x y p s) hz) fun j => by simp [det3, det2, Hnf.sub]; grind
    · exact span_of_eq (((Span.zero.step (-(det2 y z p q)) hx).step (det2 x z p q) hy).step (-(det2 x y p q)) hz) fun j => by simp [det3, det2, Hnf.sub]; grind
  · rcases lt3 hk with rfl | rfl | rfl <;> rcases lt3 ht with rfl | rfl | rfl <;> simp [det3, det2] <;> grind
  · rcases lt3 hk with rfl | rfl | rfl
    · have := det3_abs bx bY bz j q s; simp; omega
    · have := det3_abs bx bY bz p j s; simp; omega
    · have := det3_abs bx bY bz p q j; simp; omega
theorem duals4 {M : List V} {p q s t : Nat} {f g e c : V} (hM : ∀ r ∈ M, ∀ j, (r j).natAbs ≤ 20) (hf : Span M f) (hg : Span M g) (he : Span M e) (hc : Span M c) (h : det4 f g e c p q s t ≠ 0) : ∃ d w, Duals M [p, q, s, t] 4 3840000 d w := by
  obtain ⟨x, hx, h⟩ := lin_row (f := fun v => det4 v g e c p q s t) (by simp [det4]) (fun v k u => by simp only [det4, Hnf.sub]; grind) hf h
  obtain ⟨y, hy, h⟩ := lin_row (f := fun v => det4 x v e c p q s t) (by simp [det4, det3]) (fun v k u => by simp only [det4, det3, Hnf.sub]; grind) hg h
  obtain ⟨z, hz, h⟩ := lin_row (f := fun v => det4 x y v c p q s t) (by simp [det4, det3, det2]) (fun v k u => by simp only [det4, det3, det2, Hnf.sub]; grind) he h
  obtain ⟨o, ho, h⟩ := lin_row (f := fun v => det4 x y z v p q s t) (by simp [det4, det3, det2]) (fun v k u => by simp only [det4, det3, det2, Hnf.sub]; grind) hc h
  have bx := hM x hx
  have bY := hM y hy
  have bz := hM z hz
  have bo := hM o ho
  refine ⟨det4 x y z o p q s t, fun k => if k = 0 then fun j => det4 x y z o j q s t else if k = 1 then fun j => det4 x y z o p j s t else if k = 2 then fun j => det4 x y z o p q j t else fun j => det4 x y z o p q s j, h, fun k hk => ?_, fun k hk i hi => ?_, fun k hk j => ?_⟩
  · rcases lt4 hk with rfl | rfl | rfl | rfl
    · exact span_of_eq ((((Span.zero.step (-(det3 y z o q s t)) hx).step (det3 x z o q s t) hy).step (-(det3 x y o q s t)) hz).step (det3 x y z q s t) ho) fun j => by simp [det4, det3, det2, Hnf.sub]; grind
    · exact span_of_eq ((((Span.zero.step (det3 y z o p s t) hx).step (-(det3 x z o p s t)) hy).step (det3 x y o p s t) hz).step (-(det3 x y z p s t)) ho) fun j => by simp [det4, det3, det2, Hnf.sub]; grind
    · exact span_of_eq ((((Span.zero.step (-(det3 y z o p q t)) hx).step (det3 x z o p q t) hy).step (-(det3 x y o p q t)) hz).step (det3 x y z p q t) ho) fun j => by simp [det4, det3, det2, Hnf.sub]; grind
    · exact span_of_eq ((((Span.zero.step (det3 y z o p q s) hx).step (-(det3 x z o p q s)) hy).step (det3 x y o p q s) hz).step (-(det3 x y z p q s)) ho) fun j => by simp [det4, det3, det2, Hnf.sub]; grind
  · rcases lt4 hk with rfl | rfl | rfl | rfl <;> rcases lt4 hi with rfl | rfl | rfl | rfl <;> simp [det4, det3, det2] <;> grind
  · rcases lt4 hk with rfl | rfl | rfl | rfl
    · have := det4_abs bx bY bz bo j q s t; simp; omega
    · have := det4_abs bx bY bz bo p j s t; simp; omega
    · have := det4_abs bx bY bz bo p q j t; simp; omega
    · have := det4_abs bx bY bz bo p q s j; simp; omega
theorem Duals.mono {M N : List V} {ps : List Nat} {r C : Nat} {d : Int} {w : Nat → V} (h : Duals M ps r C d w) (hM : ∀ v ∈ M, Span N v) : Duals N ps r C d w := ⟨h.ne, fun k hk => (h.span k hk).trans hM, h.at', h.abs⟩
theorem mulpos_ne {a b : Int} (h : 0 < a) (h' : 0 < b) : a * b ≠ 0 := by have := Int.mul_pos h h'; omega
/-- The form of a matrix of small numbers with at most four columns. -/
theorem hnf_small {n : Nat} {M F : Mx} (hn : n ≤ 4) (hM : ∀ r ∈ M, ∀ z ∈ r, z.natAbs ≤ 20) (h : HnfOf n M F) : ∀ i, i < F.length → ∀ j, (eM F i j).natAbs ≤ 15360000 := by
  obtain ⟨⟨ps, hF⟩, h1, h2⟩ := h
  have hM' : ∀ r ∈ latM M, ∀ j, (r j).natAbs ≤ 20 := by
    intro r hr j
    obtain ⟨l, hl, rfl⟩ := List.mem_map.1 hr
    show (l.getD j 0).natAbs ≤ 20
    rw [List.getD_eq_getElem?_getD]
    rcases Nat.lt_or_ge j l.length with hj | hj
    · rw [List.getElem?_eq_getElem hj]; exact hM l hl _ (List.getElem_mem hj)
    · rw [List.getElem?_eq_none hj]; simp
  have hD : F.length ≤ 4 ∧ ∃ d w, Duals (latM M) ps F.length 3840000 d w := by
    have hlen := hF.len
    match F, ps, hF, h1, hlen with
    | [], [], hF, h1, _ => exact ⟨by simp, _, _, duals0 _ _⟩
    | [f], [p], hF, h1, _ =>
      exact ⟨by simp, duals1 hM' (h1 (vr f) (by simp [latM])) (by have : 0 < vr f p := hF.pos 0 (by simp); omega)⟩
    | [f, g], [p, q], hF, h1, _ =>
      refine ⟨by simp, duals2 hM' (h1 (vr f) (by simp [latM])) (h1 (vr g) (by simp [latM])) ?_⟩
      have a0 : 0 < vr f p := hF.pos 0 (by simp)
      have a1 : 0 < vr g q := hF.pos 1 (by simp)
      have z1 : vr g p = 0 := hF.left 1 (by simp) p (hF.inc 0 1 (by omega) (by simp))
      unfold det2; rw [z1]
      have := mulpos_ne a0 a1; simpa using this
    | [f, g, e], [p, q, s], hF, h1, _ =>
      refine ⟨by simp, duals3 hM' (h1 (vr f) (by simp [latM])) (h1 (vr g) (by simp [latM])) (h1 (vr e) (by simp [latM])) ?_⟩
      have a0 : 0 < vr f p := hF.pos 0 (by simp)
      have a1 : 0 < vr g q := hF.pos 1 (by simp)
      have a2 : 0 < vr e s := hF.pos 2 (by simp)
      have z1 : vr g p = 0 := hF.left 1 (by simp) p (hF.inc 0 1 (by omega) (by simp))
      have z2 : vr e p = 0 := hF.left 2 (by simp) p (hF.inc 0 2 (by omega) (by simp))
      have z3 : vr e q = 0 := hF.left 2 (by simp) q (hF.inc 1 2 (by omega) (by simp))
      simp only [det3, det2, z1, z2, z3]
      have := mulpos_ne a0 (Int.mul_pos a1 a2); simpa using this
    | [f, g, e, c], [p, q, s, t], hF, h1, _ =>
      refine ⟨by simp, duals4 hM' (h1 (vr f) (by simp [latM])) (h1 (vr g) (by simp [latM])) (h1 (vr e) (by simp [latM])) (h1 (vr c) (by simp [latM])) ?_⟩
      have a0 : 0 < vr f p := hF.pos 0 (by simp)
      have a1 : 0 < vr g q := hF.pos 1 (by simp)
      have a2 : 0 < vr e s := hF.pos 2 (by simp)
      have a3 : 0 < vr c t := hF.pos 3 (by simp)
      have z1 : vr g p = 0 := hF.left 1 (by simp) p (hF.inc 0 1 (by omega) (by simp))
      have z2 : vr e p = 0 := hF.left 2 (by simp) p (hF.inc 0 2 (by omega) (by simp))
      have z3 : vr e q = 0 := hF.left 2 (by simp) q (hF.inc 1 2 (by omega) (by simp))
      have z4 : vr c p = 0 := hF.left 3 (by simp) p (hF.inc 0 3 (by omega) (by simp))
      have z5 : vr c q = 0 := hF.left 3 (by simp) q (hF.inc 1 3 (by omega) (by simp))
      have z6 : vr c s = 0 := hF.left 3 (by simp) s (hF.inc 2 3 (by omega) (by simp))
      simp only [det4, det3, det2, z1, z2, z3, z4, z5, z6]
      have := mulpos_ne a0 (Int.mul_pos a1 (Int.mul_pos a2 a3)); simpa using this
    | _ :: _ :: _ :: _ :: _ :: F', p :: q :: s :: t :: u :: ps', hF, h1, _ =>
      exfalso
      have i1 := hF.inc 0 1 (by omega) (by simp)
      have i2 := hF.inc 1 2 (by omega) (by simp)
      have i3 := hF.inc 2 3 (by omega) (by simp)
      have i4 := hF.inc 3 4 (by omega) (by simp)
      have i5 := hF.lt 4 (by simp)
      omega
    | [], _ :: _, hF, h1, hl => simp at hl
    | [_], [], hF, h1, hl => simp at hl
    | [_], _ :: _ :: _, hF, h1, hl => simp at hl
    | [_, _], [], hF, h1, hl => simp at hl
    | [_, _], [_], hF, h1, hl => simp at hl
    | [_, _], _ :: _ :: _ :: _, hF, h1, hl => simp at hl
    | [_, _, _], [], hF, h1, hl => simp at hl
    | [_, _, _], [_], hF, h1, hl => simp at hl
    | [_, _, _], [_, _], hF, h1, hl => simp at hl
    | [_, _, _], _ :: _ :: _ :: _ :: _, hF, h1, hl => simp at hl
    | _ :: _ :: _ :: _ :: _, [], hF, h1, hl => simp at hl
    | _ :: _ :: _ :: _ :: _, [_], hF, h1, hl => simp at hl
    | _ :: _ :: _ :: _ :: _, [_, _], hF, h1, hl => simp at hl
    | _ :: _ :: _ :: _ :: _, [_, _, _], hF, h1, hl => simp at hl
    | _ :: _ :: _ :: _ :: _ :: _, [_, _, _, _], hF, h1, hl => simp at hl
    | [_, _, _, _], _ :: _ :: _ :: _ :: _ :: _, hF, h1, hl => simp at hl
  obtain ⟨hl, d, w, hD⟩ := hD
  intro i hi j
  have := duals_small hF (hD.mono h2) i hi j
  have : F.length * 3840000 ≤ 4 * 3840000 := Nat.mul_le_mul_right _ hl
  omega
end Go.Proofs.YtnmmglnadnfoiaaGreatDoor
/- Plain: a row reduced by a form. -/
namespace Go.Proofs.YtnmmglnadnfoiaaGreatDoor
open Hnf (V Span Ech Red)
/-- The multiple of a form's row that is taken away. -/
def stepQ (r x : List Int) : Int := (x.getD (pv r) 0).fdiv (r.getD (pv r) 0)
/-- What is left of a row, and the multiples. -/
def redX : Mx → List Int → List Int
  | [], x => x
  | r :: F, x => redX F (subK (stepQ r x) x r)
def redQ : Mx → List Int → List Int
  | [], _ => []
  | r :: F, x => stepQ r x :: redQ F (subK (stepQ r x) x r)
theorem redX_snoc (r : List Int) : ∀ (F : Mx) (x : List Int), redX (F ++ [r]) x = subK (stepQ r (redX F x)) (redX F x) r
  | [], x => rfl
  | f :: F, x => by rw [List.cons_append, redX, redX, redX_snoc r F]
theorem redQ_snoc (r : List Int) : ∀ (F : Mx) (x : List Int), redQ (F ++ [r]) x = redQ F x ++ [stepQ r (redX F x)]
  | [], x => rfl
  | f :: F, x => by rw [List.cons_append, redQ, redQ, redX, redQ_snoc r F]; rfl
@[simp] theorem redX_length : ∀ (F : Mx) (x : List Int), (redX F x).length = x.length
  | [], x => rfl
  | f :: F, x => by rw [redX, redX_length F]; simp
@[simp] theorem redQ_length : ∀ (F : Mx) (x : List Int), (redQ F x).length = F.length
  | [], x => rfl
  | f :: F, x => by rw [redQ, List.length_cons, redQ_length F]; rfl
theorem redX_take {F : Mx} {i : Nat} (h : i < F.length) (x : List Int) : redX (F.take (i + 1)) x = subK (stepQ (F.getD i []) (redX (F.take i) x)) (redX (F.take i) x) (F.getD i []) := by
  rw [take_snocM h, redX_snoc, getD_get h]
theorem redQ_take {F : Mx} {i : Nat} (h : i < F.length) (x : List Int) : redQ (F.take (i + 1)) x = redQ (F.take i) x ++ [stepQ (F.getD i []) (redX (F.take i) x)] := by
  rw [take_snocM h, redQ_snoc, getD_get h]
/-- Each row has an element that is not 0. -/
def Piv (F : Mx) : Prop := ∀ i, i < F.length → (F.getD i []).getD (pv (F.getD i [])) 0 ≠ 0
theorem IsH.piv {n : Nat} {ps : List Nat} {F : Mx} (h : IsH n ps F) : Piv F := by
  intro i hi
  have e := isH_pv h
  have := h.pos i hi
  rw [e, getD_map pv F i hi 0 []] at this
  have h2 : eM F i (pv (F.getD i [])) ≠ 0 := by omega
  exact h2
theorem stepQ_abs {r x : List Int} (h : r.getD (pv r) 0 ≠ 0) {B : Nat} (hB : 0 < B) (hx : ∀ z ∈ x, z.natAbs < B) : (stepQ r x).natAbs < B := by
  refine Nat.lt_of_le_of_lt (fdiv_abs _ h) ?_
  rw [List.getD_eq_getElem?_getD]
  rcases Nat.lt_or_ge (pv r) x.length with hl | hl
  · rw [List.getElem?_eq_getElem hl]; exact hx _ (List.getElem_mem hl)
  · rw [List.getElem?_eq_none hl]; simpa using hB
theorem redX_small {F : Mx} {x : List Int} (hP : Piv F) (hF : ∀ r ∈ F, ∀ z ∈ r, z.natAbs < 2 ^ 30) (hx : ∀ z ∈ x, z.natAbs < 2 ^ 30) : ∀ i, i ≤ F.length → ∀ z ∈ redX (F.take i) x, z.natAbs < 2 ^ (30 + 31 * i)
  | 0, _ => by simpa [redX] using hx
  | i + 1, h => by
    have ih := redX_small hP hF hx i (by omega)
    rw [redX_take (by omega)]
    have p0 : 0 < 2 ^ (30 + 31 * i) := Nat.pow_pos (by omega)
    have hq := stepQ_abs (hP i (by omega)) p0 ih
    generalize stepQ (F.getD i []) (redX (F.take i) x) = q at *
    refine subK_all q (Q := fun z => z.natAbs < 2 ^ (30 + 31 * i)) (R := fun z => z.natAbs < 2 ^ 30) ?_ ?_ _ _ ih (fun z hz => ?_)
    · intro z hz; exact Nat.lt_of_lt_of_le hz (Nat.pow_le_pow_right (by omega) (by omega))
    · intro y z hy hz
      have h1 : (q * z).natAbs ≤ 2 ^ (30 + 31 * i) * 2 ^ 30 := by
        rw [Int.natAbs_mul]; exact Nat.mul_le_mul (Nat.le_of_lt hq) (Nat.le_of_lt hz)
      have e : 2 ^ (30 + 31 * (i + 1)) = 2 ^ (30 + 31 * i) * 2 ^ 30 * 2 := by
        rw [show 30 + 31 * (i + 1) = (30 + 31 * i) + 30 + 1 by omega, Nat.pow_succ, Nat.pow_add]
      have h2 : 2 ^ (30 + 31 * i) ≤ 2 ^ (30 + 31 * i) * 2 ^ 30 := Nat.le_mul_of_pos_right _ (Nat.pow_pos (by omega))
      rw [e]
      have hy' : y.natAbs < 2 ^ (30 + 31 * i) := hy
      omega
    · rw [getD_get (by omega)] at hz
      exact hF _ (List.getElem_mem (by omega)) z hz
/-- The rest differs from the row by an element of the lattice. -/
theorem redX_span {n : Nat} : ∀ (F : Mx) (x : List Int), Rect n F → x.length = n → Span (latM F) (Hnf.sub (vr x) 1 (vr (redX F x)))
  | [], x, _, _ => by
    have e : Hnf.sub (vr x) 1 (vr (redX [] x)) = fun _ => 0 := by funext j; simp [Hnf.sub, redX]
    rw [e]; exact .zero
  | r :: F, x, hF, hx => by
    have hr : r.length = n := hF r (by simp)
    have ih := redX_span F (subK (stepQ r x) x r) (fun s hs => hF s (by simp [hs])) (by simp [hx])
    have h2 : Span (latM (r :: F)) (Hnf.sub (vr (subK (stepQ r x) x r)) 1 (vr (redX F (subK (stepQ r x) x r)))) := ih.mono fun v hv => by
      simp only [latM, List.map_cons]; exact List.mem_cons_of_mem _ hv
    have h3 := h2.step (-(stepQ r x)) (r := vr r) (by simp [latM])
    refine span_of_eq h3 fun j => ?_
    rw [redX, vr_sub _ (by omega)]
    simp only [Hnf.sub]; grind
theorem redX_keep {n : Nat} : ∀ (F : Mx) (x : List Int) (j : Nat), Rect n F → x.length = n → (∀ r ∈ F, r.getD j 0 = 0) → (redX F x).getD j 0 = x.getD j 0
  | [], x, j, _, _, _ => rfl
  | r :: F, x, j, hF, hx, hz => by
    have hr : r.length = n := hF r (by simp)
    rw [redX, redX_keep F _ j (fun s hs => hF s (by simp [hs])) (by simp [hx]) (fun s hs => hz s (by simp [hs])), subK_getD _ _ _ _ (by omega), hz r (by simp)]
    simp
/-- The rest is reduced at the pivots. -/
theorem redX_range {n : Nat} {ps : List Nat} {F : Mx} (h : IsH n ps F) {x : List Int} (hx : x.length = n) (i : Nat) (hi : i < F.length) : 0 ≤ (redX F x).getD (ps.getD i 0) 0 ∧ (redX F x).getD (ps.getD i 0) 0 < eM F i (ps.getD i 0) := by
  have e : redX F x = redX (F.drop (i + 1)) (redX (F.take (i + 1)) x) := by
    have : ∀ (A B : Mx) (y : List Int), redX (A ++ B) y = redX B (redX A y) := by
      intro A
      induction A with
      | nil => intro B y; rfl
      | cons a A ih => intro B y; rw [List.cons_append, redX, redX, ih]
    rw [← this, List.take_append_drop]
  have hl1 : (redX (F.take (i + 1)) x).length = n := by simp [hx]
  have hFi : (F.getD i []).length = n := by rw [getD_get hi]; exact h.rect _ (List.getElem_mem hi)
  rw [e, redX_keep (n := n) _ _ _ (fun s hs => h.rect s (List.mem_of_mem_drop hs)) hl1 (fun r hr => ?_), redX_take hi, subK_getD _ _ _ _ (by rw [hFi, redX_length, hx]; exact Nat.le_refl _)]
  · have hpi : ps.getD i 0 = pv (F.getD i []) := by rw [isH_pv h, getD_map pv F i hi 0 []]
    rw [hpi]
    have hpos := h.pos i hi
    rw [hpi] at hpos
    exact fdr_pos hpos
  · obtain ⟨t, ht, rfl⟩ := List.getElem_of_mem hr
    rw [List.getElem_drop]
    have ht' : i + 1 + t < F.length := by simp at ht; omega
    have := h.left (i + 1 + t) ht' (ps.getD i 0) (h.inc i (i + 1 + t) (by omega) ht')
    unfold eM at this
    rw [getD_get ht'] at this
    exact this
def zeroL (l : List Int) : Prop := ∀ z ∈ l, z = 0
theorem zero_vr {l : List Int} : zeroL l ↔ ∀ j, vr l j = 0 := by
  constructor
  · intro h j
    show l.getD j 0 = 0
    rw [List.getD_eq_getElem?_getD]
    rcases Nat.lt_or_ge j l.length with hj | hj
    · rw [List.getElem?_eq_getElem hj]; exact h _ (List.getElem_mem hj)
    · rw [List.getElem?_eq_none hj]; rfl
  · intro h z hz
    obtain ⟨j, hj, rfl⟩ := List.getElem_of_mem hz
    have := h j
    show l[j] = 0
    rw [← getD_get hj 0]; exact this
/-- A row belongs to the lattice just if nothing is left. -/
theorem redX_zero {n : Nat} {ps : List Nat} {F : Mx} (h : IsH n ps F) {x : List Int} (hx : x.length = n) : zeroL (redX F x) ↔ Span (latM F) (vr x) := by
  have hs := redX_span F x h.rect hx
  rw [zero_vr]
  constructor
  · intro hz
    refine span_of_eq hs fun j => ?_
    simp [Hnf.sub, hz j]
  · intro hv
    have hr : Span (latM F) (vr (redX F x)) := by
      refine span_of_eq (hv.sub 1 hs) fun j => ?_
      simp only [Hnf.sub]; omega
    rcases Hnf.first (vr (redX F x)) with h0 | ⟨j, hj, hz⟩
    · exact h0
    · exfalso
      rw [← wps_rows h.len] at hr
      obtain ⟨g, hg, e, hd⟩ := h.ech.lead hr hj hz
      obtain ⟨i, hi, rfl⟩ := wps_mem h.len hg
      simp only at e hd
      subst e
      have hrg := redX_range h hx i hi
      obtain ⟨c, hc⟩ := hd
      have hpos := h.pos i hi
      have hc' : (redX F x).getD (ps.getD i 0) 0 = eM F i (ps.getD i 0) * c := hc
      have hj' : (redX F x).getD (ps.getD i 0) 0 ≠ 0 := hj
      have hlt : (eM F i (ps.getD i 0) * c).natAbs < (eM F i (ps.getD i 0)).natAbs := by rw [← hc']; omega
      rw [Int.natAbs_mul] at hlt
      have hc0 : c.natAbs = 0 := by
        rcases Nat.eq_zero_or_pos c.natAbs with h | h
        · exact h
        · have := Nat.mul_le_mul_left (eM F i (ps.getD i 0)).natAbs h; omega
      have hcz : c = 0 := by omega
      rw [hcz, Int.mul_zero] at hc'
      exact hj' hc'
end Go.Proofs.YtnmmglnadnfoiaaGreatDoor
/- Plain: what smith.diagonal does, as a function on lists of rows. -/
namespace Go.Proofs.YtnmmglnadnfoiaaGreatDoor
def rowSub (i t : Nat) (q : Int) (A : Mx) : Mx := A.set i (subK q (A.getD i []) (A.getD t []))
def colSub (i o : Nat) (q : Int) (A : Mx) : Mx := A.map fun l => l.set i (l.getD i 0 - q * l.getD o 0)
def rowSwap (i j : Nat) (A : Mx) : Mx := (A.set i (A.getD j [])).set j (A.getD i [])
def swapL (i j : Nat) (l : List Int) : List Int := (l.set i (l.getD j 0)).set j (l.getD i 0)
def colSwap (i j : Nat) (A : Mx) : Mx := A.map (swapL i j)
def rowNeg (i : Nat) (A : Mx) : Mx := A.set i ((A.getD i []).map fun z => -z)
/-- The better one of a place and a further one. -/
def betB (A : Mx) (b : Option (Nat × Nat)) (i k : Nat) : Option (Nat × Nat) :=
  if eM A i k = 0 then b else match b with
    | none => some (i, k)
    | some p => if (eM A i k).natAbs < (eM A p.1 p.2).natAbs then some (i, k) else b
def bestRow (A : Mx) (i t : Nat) (b : Option (Nat × Nat)) : Nat → Option (Nat × Nat)
  | 0 => b
  | k + 1 => betB A (bestRow A i t b k) i (t + k)
def bestAll (A : Mx) (t w : Nat) : Nat → Option (Nat × Nat)
  | 0 => none
  | i + 1 => bestRow A (t + i) t (bestAll A t w i) w
/-- The matrix, and the two that were combined. -/
structure Dg where
  a : Mx
  l : Mx
  r : Mx
  deriving Inhabited
def swapD (t i k : Nat) (s : Dg) : Dg := ⟨colSwap t k (rowSwap t i s.a), rowSwap t i s.l, colSwap t k s.r⟩
def rowStep (t i : Nat) (s : Dg) : Dg := ⟨rowSub i t ((eM s.a i t).fdiv (eM s.a t t)) s.a, rowSub i t ((eM s.a i t).fdiv (eM s.a t t)) s.l, s.r⟩
def rowsTo (t : Nat) : Nat → Dg → Dg
  | 0, s => s
  | j + 1, s => rowStep t (t + 1 + j) (rowsTo t j s)
def rowsOk (t : Nat) : Nat → Dg → Bool
  | 0, _ => true
  | j + 1, s => rowsOk t j s && decide ((eM (rowsTo t j s).a (t + 1 + j) t).fmod (eM (rowsTo t j s).a t t) = 0)
def colStep (t k : Nat) (s : Dg) : Dg := ⟨colSub k t ((eM s.a t k).fdiv (eM s.a t t)) s.a, s.l, colSub k t ((eM s.a t k).fdiv (eM s.a t t)) s.r⟩
def colsTo (t : Nat) : Nat → Dg → Dg
  | 0, s => s
  | j + 1, s => colStep t (t + 1 + j) (colsTo t j s)
def colsOk (t : Nat) : Nat → Dg → Bool
  | 0, _ => true
  | j + 1, s => colsOk t j s && decide ((eM (colsTo t j s).a t (t + 1 + j)).fmod (eM (colsTo t j s).a t t) = 0)
def clearD (n c t : Nat) (s : Dg) : Dg := colsTo t (c - (t + 1)) (rowsTo t (n - (t + 1)) s)
def clearOk (n c t : Nat) (s : Dg) : Bool := rowsOk t (n - (t + 1)) s && colsOk t (c - (t + 1)) (rowsTo t (n - (t + 1)) s)
/-- A row with an element that the one of the diagonal does not divide. -/
def badRow (A : Mx) (t i : Nat) : Nat → Bool
  | 0 => false
  | k + 1 => badRow A t i k || decide ((eM A i (t + 1 + k)).fmod (eM A t t) ≠ 0)
def spoil (A : Mx) (t w : Nat) : Nat → Option Nat
  | 0 => none
  | j + 1 => match spoil A t w j with
    | some x => some x
    | none => if badRow A t (t + 1 + j) w then some (t + 1 + j) else none
def addD (t i : Nat) (s : Dg) : Dg := ⟨rowSub t i (-1) s.a, rowSub t i (-1) s.l, s.r⟩
def posD (t : Nat) (s : Dg) : Dg := if eM s.a t t < 0 then ⟨rowNeg t s.a, rowNeg t s.l, s.r⟩ else s
/-- A round; none: nothing is left. -/
def stepD (n c t : Nat) (s : Dg) : Option (Nat × Dg) :=
  match bestAll s.a t (c - t) (n - t) with
  | none => none
  | some (i, k) =>
    if clearOk n c t (swapD t i k s) then
      match spoil (clearD n c t (swapD t i k s)).a t (c - (t + 1)) (n - (t + 1)) with
      | some j => some (t, addD t j (clearD n c t (swapD t i k s)))
      | none => some (t + 1, posD t (clearD n c t (swapD t i k s)))
    else some (t, clearD n c t (swapD t i k s))
def bddM (E : Nat) (A : Mx) : Bool := A.all fun l => l.all fun z => decide (z.natAbs < 2 ^ E)
def bddD (E : Nat) (s : Dg) : Bool := bddM E s.a && bddM E s.l && bddM E s.r
/-- So many rounds lead to the end, all with numbers of less than E binary digits at their heads. -/
def runD (E n c : Nat) : Nat → Nat → Dg → Option (Nat × Dg)
  | 0, _, _ => none
  | f + 1, t, s => if bddD E s then match stepD n c t s with
      | none => some (t, s)
      | some p => runD E n c f p.1 p.2
    else none
def unitM (n : Nat) : Mx := (List.range n).map fun i => unitR n i
def startD (M : Mx) (c : Nat) : Dg := ⟨M, unitM M.length, unitM c⟩
example : (runD 64 2 2 10 0 (startD [[-3, 2], [-1, 1]] 2)).map (fun p => (p.1, p.2.a)) = some (2, [[1, 0], [0, 1]]) := by decide
end Go.Proofs.YtnmmglnadnfoiaaGreatDoor
