/- Part 19 of the proof of the claim: contracts of the functions that it reaches, and plain laws; no condition. -/
import Derived.Test.YtjnpakablgommaaGreatDoorV17
import Derived.Test.YtjnpakablgommaaGreatDoorV18
set_option maxRecDepth 100000
namespace Go.Proofs.YtjnpakablgommaaGreatDoor
open Go.RowKit Go.Sort
structure Lr (B : Nat) (w : World) (g cap N n : Nat) (ad : List (Nat × Nat)) (ls : List Ln) : Prop where
 gr : LrX B w (slv g N cap) (rowsL ls) ad
 len : ls.length = N
 dim : Dim n 0 ls
theorem Lr.ext {B : Nat} {w w' : World} {g cap N n : Nat} {ad : List (Nat × Nat)} {ls : List Ln} (h : Lr B w g cap N n ad ls) (he : Ext w w') : Lr B w' g cap N n ad ls := ⟨h.gr.ext he, h.len, h.dim⟩
theorem Lr.rect {B : Nat} {w : World} {g cap N n : Nat} {ad : List (Nat × Nat)} {ls : List Ln} (h : Lr B w g cap N n ad ls) : Rect n (rowsL ls) := fun r hr => by
 obtain ⟨l, hl, rfl⟩ := List.mem_map.1 hr; exact (h.dim l hl).1
theorem Lr.grl {B : Nat} {w : World} {g cap N n : Nat} {ad : List (Nat × Nat)} {ls : List Ln} (h : Lr B w g cap N n ad ls) : LrX B w (slv g (rowsL ls).length cap) (rowsL ls) ad := by
 have := h.gr; rwa [← h.len, ← rowsL_length] at this
theorem Lr.base {B : Nat} {w : World} {g cap N n : Nat} {ad : List (Nat × Nat)} {ls : List Ln} (h : Lr B w g cap N n ad ls) : B ≤ g ∧ g < w.heap.size := h.grl.outer.lt
theorem Lr.fz {B : Nat} {w : World} {g cap N n : Nat} {ad : List (Nat × Nat)} {ls : List Ln} (h : Lr B w g cap N n ad ls) (o : Nat) : w.frozen? ⟨g, o, none⟩ = false := h.grl.outer.frozen o
theorem Lr.ln {B : Nat} {w : World} {g cap N n d i c : Nat} {ad : List (Nat × Nat)} {ls : List Ln} (h : Lr B w g cap N n ad ls) (hi : d + i < N) (hc : c < n) :
  ∃ gx cx, ad[d + i]? = some (gx, cx) ∧ w.cell? ⟨g, d + i, none⟩ = some (slv gx n cx) ∧ w.cell? ⟨gx, c, none⟩ = some (I (cols c d ls i)) ∧ OwnV 79 B w gx cx (ss (ls.getD (d + i) default).1) ∧ gx ≠ g := by
 obtain ⟨gx, cx, h1, h2, h3, h4, h5⟩ := h.grl.at h.rect (by omega) (i := d + i) (by rw [rowsL_length, h.len]; exact hi)
 rw [rowsL_getD] at h3 h5
 refine ⟨gx, cx, h1, h2, ?_, h3, h4⟩
 rw [h3.cell (j := c) (by rw [ss_length, h5]; exact hc)]
 exact congrArg some (ss_at (by rw [h5]; exact hc) _)
theorem Lr.ne {B : Nat} {w : World} {g cap N n i t gx cx gt ct : Nat} {ad : List (Nat × Nat)} {ls : List Ln} (h : Lr B w g cap N n ad ls) (hn : 0 < n) (hi : i < N) (ht : t < N) (hne : i ≠ t) (hai : ad[i]? = some (gx, cx)) (hat : ad[t]? = some (gt, ct)) : gx ≠ gt := by
 obtain ⟨h1, e1⟩ := List.getElem?_eq_some_iff.1 hai
 obtain ⟨h2, e2⟩ := List.getElem?_eq_some_iff.1 hat
 have hl : ∀ j (hj : j < (rowsL ls).length), 0 < (rowsL ls)[j].length := fun j hj => by rw [h.rect _ (List.getElem_mem hj)]; exact hn
 have hi' : i < (rowsL ls).length := by rw [rowsL_length, h.len]; exact hi
 have ht' : t < (rowsL ls).length := by rw [rowsL_length, h.len]; exact ht
 have := h.gr.dis i t h1 h2 hi' ht' (hl i hi') (hl t ht') hne
 rw [e1, e2] at this
 exact this
theorem Lr.wrote {B : Nat} {w w' : World} {g cap N n i gx cx : Nat} {ad : List (Nat × Nat)} {ls : List Ln} (h : Lr B w g cap N n ad ls) (hn : 0 < n) (hi : i < N) (hai : ad[i]? = some (gx, cx)) {l : Ln} (hl : l.1.length = n ∧ l.2.length = 0)
  (hO : OwnV 79 B w' gx cx (ss l.1)) (hG : w.grownBy w' (some gx)) : Lr B w' g cap N n ad (ls.set i l) := by
 have hi' : i < (rowsL ls).length := by rw [rowsL_length, h.len]; exact hi
 have h1 := h.grl.wrote hi' hai (r := l.1) (by rw [rowsL_getD, hl.1, (h.dim.getD (by rw [h.len]; exact hi)).1]) (by omega) hO (Chg.of_grown hG rfl)
 rw [← rowsL_set, rowsL_length, h.len] at h1
 exact ⟨h1, by rw [List.length_set]; exact h.len, h.dim.set i hl⟩
theorem Lr.swap {B : Nat} {w : World} {g cap N n i j gi ci gj cj : Nat} {ad : List (Nat × Nat)} {ls : List Ln} (h : Lr B w g cap N n ad ls) (hn : 0 < n) (hi : i < N) (hj : j < N) (hai : ad[i]? = some (gi, ci)) (haj : ad[j]? = some (gj, cj)) :
  Lr B ((w.setCell ⟨g, i, none⟩ (slv gj n cj)).setCell ⟨g, j, none⟩ (slv gi n ci)) g cap N n (sw2 ad (0, 0) i j) (swp ls i j)
   ∧ w.grownBy ((w.setCell ⟨g, i, none⟩ (slv gj n cj)).setCell ⟨g, j, none⟩ (slv gi n ci)) (some g) := by
 have hi' : i < (rowsL ls).length := by rw [rowsL_length, h.len]; exact hi
 have hj' : j < (rowsL ls).length := by rw [rowsL_length, h.len]; exact hj
 obtain ⟨h1, h2, h3⟩ := h.grl.swapped h.rect hn hi' hj' hai haj
 rw [← rowsL_swp, rowsL_length, h.len] at h1
 refine ⟨⟨h1, by rw [swp_length]; exact h.len, ?_⟩, h2⟩
 unfold swp
 exact (h.dim.set i (h.dim.getD (by rw [h.len]; exact hj))).set j (h.dim.getD (by rw [h.len]; exact hi))
theorem less_lines {w0 w : World} {g cap N n i t E gx cx gt ct : Nat} {q : Int} {ad : List (Nat × Nat)} {ls : List Ln} (h : Lr w0.heap.size w g cap N n ad ls) (hn : 0 < n) (hn2 : n ≤ 1000000) (hi : i < N) (ht : t < N) (hne : i ≠ t)
  (hai : ad[i]? = some (gx, cx)) (hat : ad[t]? = some (gt, ct)) (hA : All (fun z => z.natAbs < 2 ^ E) (ls.getD i default)) (hB : All (fun z => z.natAbs < 2 ^ E) (ls.getD t default)) (hq : q.natAbs < 2 ^ E) (hE : 2 * E + 2 < LIM) (hL : Laid w0) (hE0 : Ext w0 w) :
  Calls Tryz.prog 246 #[slv gx n cx, I q, slv gt n ct] w fun e w' =>
   e = .returned (.tuple #[]) ∧ Lr w0.heap.size w' g cap N n ad (ls.set i (lsub q (ls.getD i default) (ls.getD t default))) ∧ Ext w0 w' ∧ w.grownBy w' (some gx) := by
 have li := h.dim.getD (i := i) (by rw [h.len]; exact hi)
 have lt := h.dim.getD (i := t) (by rw [h.len]; exact ht)
 obtain ⟨gx', cx', a1, a2, a3, a4, a5⟩ := h.grl.at h.rect hn (i := i) (by rw [rowsL_length, h.len]; exact hi)
 obtain ⟨gt', ct', b1, b2, b3, b4, b5⟩ := h.grl.at h.rect hn (i := t) (by rw [rowsL_length, h.len]; exact ht)
 rw [hai] at a1
 rw [hat] at b1
 injection a1 with a1
 injection b1 with b1
 injection a1 with e1 e2
 injection b1 with e3 e4
 subst e1 e2 e3 e4
 rw [rowsL_getD] at a3 b3
 have hk := lless_any (w0 := w0) (w := w) (ga := gx) (ca := cx) (k := q) (cb := ct) a3 b3.sl (Ne.symm (h.ne hn hi ht hne hai hat)) (by rw [lt.1, li.1]) (by rw [li.1]; exact hn2) (less_big hA.1 hB.1 hq hE) hL hE0
 rw [li.1] at hk
 refine hk.mono ?_
 rintro e w' ⟨rfl, hO, hG⟩
 exact ⟨rfl, h.wrote hn hi hai (l := lsub q (ls.getD i default) (ls.getD t default)) ⟨by show (subK q _ _).length = n; rw [subK_length]; exact li.1, by show (subK q _ _).length = 0; rw [subK_length]; exact li.2⟩ hO hG, ext_trans_grown hE0 hG a3.lt.1, hG⟩
theorem neg_lines {w0 w : World} {g cap N n i E gx cx : Nat} {ad : List (Nat × Nat)} {ls : List Ln} (h : Lr w0.heap.size w g cap N n ad ls) (hn : 0 < n) (hn2 : n ≤ 1000000) (hi : i < N)
  (hai : ad[i]? = some (gx, cx)) (hA : All (fun z => z.natAbs < 2 ^ E) (ls.getD i default)) (hE : 2 * E + 2 < LIM) (hE0 : Ext w0 w) :
  Calls Tryz.prog 247 #[slv gx n cx] w fun e w' =>
   e = .returned (.tuple #[]) ∧ Lr w0.heap.size w' g cap N n ad (ls.set i (lneg (ls.getD i default))) ∧ Ext w0 w' ∧ w.grownBy w' (some gx) := by
 have li := h.dim.getD (i := i) (by rw [h.len]; exact hi)
 obtain ⟨gx', cx', a1, a2, a3, a4, a5⟩ := h.grl.at h.rect hn (i := i) (by rw [rowsL_length, h.len]; exact hi)
 rw [hai] at a1
 injection a1 with a1
 injection a1 with e1 e2
 subst e1 e2
 rw [rowsL_getD] at a3
 refine (lneg_row (B := w0.heap.size) (w := w) a3 li.1 hn2 (fun z hz => by have := nd_lt2 (hA.1 z hz); omega)).mono ?_
 rintro e w' ⟨rfl, hO, hG⟩
 exact ⟨rfl, h.wrote hn hi hai (l := lneg (ls.getD i default)) ⟨by show (List.map _ _).length = n; rw [List.length_map]; exact li.1, by show (List.map _ _).length = 0; rw [List.length_map]; exact li.2⟩ hO hG, ext_trans_grown hE0 hG a3.lt.1, hG⟩
theorem Lr.el {B : Nat} {w : World} {g cap N n i c : Nat} {ad : List (Nat × Nat)} {ls : List Ln} (h : Lr B w g cap N n ad ls) (hi : i < N) (hc : c < n) :
  ∃ gx cx, ad[i]? = some (gx, cx) ∧ w.cell? ⟨g, i, none⟩ = some (slv gx n cx) ∧ w.cell? ⟨gx, c, none⟩ = some (I (en ls i c)) ∧ OwnV 79 B w gx cx (ss (ls.getD i default).1) ∧ gx ≠ g := by
 obtain ⟨gx, cx, h1, h2, h3, h4, h5⟩ := h.ln (d := i) (i := 0) (by omega) hc
 exact ⟨gx, cx, h1, h2, h3, h4, h5⟩
theorem Gr.el {B : Nat} {w : World} {g cap N n i c : Nat} {ad : List (Nat × Nat)} {ls : List Ln} (h : Gr B w g cap N n ad ls) (hi : i < N) (hc : c < n) :
  ∃ gx cx, ad[i]? = some (gx, cx) ∧ w.cell? ⟨g, i, none⟩ = some (slv gx n cx) ∧ w.cell? ⟨gx, c, none⟩ = some (I (en ls i c)) ∧ OwnV 79 B w gx cx (ss (ls.getD i default).1) ∧ gx ≠ g := by
 obtain ⟨gx, cx, h1, h2, h3, h4, h5⟩ := h.ln (d := i) (i := 0) (by omega) hc
 exact ⟨gx, cx, h1, h2, h3, h4, h5⟩
theorem cnt_none {f : Nat → Int} : ∀ {i}, (∀ t, t < i → f t = 0) → cntNZ f i = 0
 | 0, _ => rfl
 | i + 1, h => by rw [cntNZ, if_pos (h i (by omega)), cnt_none (fun t ht => h t (by omega))]
def BsR (f : Nat → Int) (d i : Nat) (kv : Int) (mv : Bool) : Prop :=
 (kv = -1 ∧ mv = false ∧ ∀ t, t < i → f t = 0) ∨ ∃ p : Nat, p < i ∧ kv = ((d + p : Nat) : Int) ∧ f p ≠ 0 ∧ (∀ t, t < i → f t ≠ 0 → (f p).natAbs ≤ (f t).natAbs) ∧ mv = decide (1 < cntNZ f i)
theorem bs_zero {f : Nat → Int} {d i : Nat} {kv : Int} {mv : Bool} (h : BsR f d i kv mv) (hz : f i = 0) : BsR f d (i + 1) kv mv := by
 rcases h with ⟨h1, h2, h3⟩ | ⟨p, hp, h1, h2, h3, h4⟩
 ·exact .inl ⟨h1, h2, fun t ht => by
   by_cases e : t = i
   ·subst e; exact hz
   ·exact h3 t (by omega)⟩
 ·refine .inr ⟨p, by omega, h1, h2, fun t ht hn => ?_, by rw [cntNZ, if_pos hz]; exact h4⟩
  by_cases e : t = i
  ·subst e; exact absurd hz hn
  ·exact h3 t (by omega) hn
theorem bs_first {f : Nat → Int} {d i : Nat} (h : ∀ t, t < i → f t = 0) (hz : f i ≠ 0) : BsR f d (i + 1) ((d + i : Nat) : Int) false := by
 refine .inr ⟨i, by omega, rfl, hz, fun t ht hn => ?_, ?_⟩
 ·by_cases e : t = i
  ·subst e; exact Nat.le_refl _
  ·exact absurd (h t (by omega)) hn
 ·rw [cntNZ, if_neg hz, cnt_none h]; rfl
theorem bs_less {f : Nat → Int} {d i p : Nat} (hp : p < i) (hpz : f p ≠ 0) (h : ∀ t, t < i → f t ≠ 0 → (f p).natAbs ≤ (f t).natAbs) (hz : f i ≠ 0) (hlt : (f i).natAbs < (f p).natAbs) : BsR f d (i + 1) ((d + i : Nat) : Int) true := by
 refine .inr ⟨i, by omega, rfl, hz, fun t ht hn => ?_, ?_⟩
 ·by_cases e : t = i
  ·subst e; exact Nat.le_refl _
  ·have := h t (by omega) hn; omega
 ·have := cnt_pos hpz hp
  rw [cntNZ, if_neg hz, decide_eq_true (by omega)]
theorem bs_keep {f : Nat → Int} {d i p : Nat} (hp : p < i) (hpz : f p ≠ 0) (h : ∀ t, t < i → f t ≠ 0 → (f p).natAbs ≤ (f t).natAbs) (hz : f i ≠ 0) (hlt : (f p).natAbs ≤ (f i).natAbs) : BsR f d (i + 1) ((d + p : Nat) : Int) true := by
 refine .inr ⟨p, by omega, rfl, hpz, fun t ht hn => ?_, ?_⟩
 ·by_cases e : t = i
  ·subst e; exact hlt
  ·exact h t (by omega) hn
 ·have := cnt_pos hpz hp
  rw [cntNZ, if_neg hz, decide_eq_true (by omega)]
end Go.Proofs.YtjnpakablgommaaGreatDoor
