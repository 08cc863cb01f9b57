/- Part 27 of the proof of the claim: contracts of the functions that it reaches, and plain laws; no condition. -/
import Derived.Test.YtedlgnoiojcjaaaGreatDoorV26
import Derived.Test.YtedlgnoiojcjaaaGreatDoorV20
import Derived.Deep.CutRange
import Derived.Test.YtedlgnoiojcjaaaGreatDoorV22
import Derived.Test.YtedlgnoiojcjaaaGreatDoorV01
set_option maxRecDepth 100000
namespace Go.Proofs.YtedlgnoiojcjaaaGreatDoor
theorem nd_0 : nd 0 = 1 := Lib.nDigits_small (u := 0) (by omega)
theorem nd_1 : nd 1 = 1 := Lib.nDigits_small (u := 1) (by omega)
def NdQ (E : Nat) (r : Rat) : Prop := nd r.num ≤ E ∧ nd r.den ≤ E
theorem NdQ.mono {E F : Nat} {r : Rat} (h : NdQ E r) (hE : E ≤ F) : NdQ F r := ⟨Nat.le_trans h.1 hE, Nat.le_trans h.2 hE⟩
theorem NdQ.smQ {E : Nat} {r : Rat} (h : NdQ E r) (hE : E ≤ 100000000) : SmQ r := ⟨Nat.le_trans h.1 hE, Nat.le_trans h.2 hE⟩
theorem NdQ.of_int {E : Nat} {k : Int} (h : nd k ≤ E) : NdQ E (k : Rat) := by
 refine ⟨by simpa using h, ?_⟩
 have := nd_pos k
 rw [show (((k : Rat).den : Nat) : Int) = 1 by simp]
 rw [nd_1]; omega
theorem NdQ.zero {E : Nat} (h : 1 ≤ E) : NdQ E 0 := by
 have := NdQ.of_int (E := E) (k := 0) (by rw [nd_0]; exact h)
 simpa using this
theorem NdQ.one {E : Nat} (h : 1 ≤ E) : NdQ E 1 := by
 have := NdQ.of_int (E := E) (k := 1) (by rw [nd_1]; exact h)
 simpa using this
theorem NdQ.neg {E : Nat} {r : Rat} (h : NdQ E r) : NdQ E (-r) := by
 unfold NdQ; rw [Rat.neg_num, Rat.neg_den, nd_neg]; exact h
theorem NdQ.mk {n d : Int} {r : Rat} {E : Nat} (h : qmk n d = qR r) (hn : nd n ≤ E) (hd : nd d ≤ E) : NdQ E r := by
 obtain ⟨e1, e2⟩ := qR_eq h
 refine ⟨?_, ?_⟩
 ·rw [← e1]; exact Nat.le_trans (nd_qn _ _) hn
 ·rw [← e2]; exact Nat.le_trans (nd_qd _ _) hd
theorem NdQ.add {E F : Nat} {a b : Rat} (ha : NdQ E a) (hb : NdQ F b) : NdQ (E + F + 1) (a + b) := by
 have h1 := nd_mul a.num b.den
 have h2 := nd_mul b.num a.den
 have h3 := nd_mul a.den b.den
 have h4 := nd_add (a.num * b.den) (b.num * a.den)
 obtain ⟨a1, a2⟩ := ha
 obtain ⟨b1, b2⟩ := hb
 refine NdQ.mk (qadd_R a b) ?_ ?_
 ·show nd (a.num * b.den + b.num * a.den) ≤ _
  omega
 ·show nd ((a.den : Int) * b.den) ≤ _
  omega
theorem NdQ.sub {E F : Nat} {a b : Rat} (ha : NdQ E a) (hb : NdQ F b) : NdQ (E + F + 1) (a - b) := by
 rw [show a - b = a + -b by grind]; exact ha.add hb.neg
theorem NdQ.mul {E F : Nat} {a b : Rat} (ha : NdQ E a) (hb : NdQ F b) : NdQ (E + F) (a * b) := by
 have h1 := nd_mul a.num b.num
 have h3 := nd_mul a.den b.den
 obtain ⟨a1, a2⟩ := ha
 obtain ⟨b1, b2⟩ := hb
 refine NdQ.mk (qmul_R a b) ?_ ?_
 ·show nd (a.num * b.num) ≤ _
  omega
 ·show nd ((a.den : Int) * b.den) ≤ _
  omega
theorem sumR_nd {f : Nat → Rat} {E : Nat} : ∀ n, (∀ k, k < n → NdQ E (f k)) → NdQ (n * (E + 1) + 1) (sumR f n)
 | 0, _ => by rw [Nat.zero_mul]; exact NdQ.zero (by omega)
 | n + 1, h => by
  have := (sumR_nd n fun k hk => h k (by omega)).add (h n (by omega))
  refine NdQ.mono this ?_
  rw [Nat.succ_mul]; omega
theorem cmbF_nd {l : List (List Rat)} {fs : List Rat} {E F c k : Nat} (hl : ∀ s ∈ l, ∀ r ∈ s, NdQ E r) (hf : ∀ r ∈ fs, NdQ F r) (hE : 1 ≤ E) (hF : 1 ≤ F) : NdQ (E + F) (cmbF l fs c k) := by
 refine NdQ.mul ?_ ?_
 ·rw [List.getD_eq_getElem?_getD, List.getD_eq_getElem?_getD]
  by_cases h : k < l.length
  ·rw [List.getElem?_eq_getElem h, Option.getD_some]
   by_cases h2 : c < l[k].length
   ·rw [List.getElem?_eq_getElem h2, Option.getD_some]; exact hl _ (List.getElem_mem h) _ (List.getElem_mem h2)
   ·rw [List.getElem?_eq_none (by omega)]; exact NdQ.zero hE
  ·rw [List.getElem?_eq_none (show l.length ≤ k by omega), Option.getD_none, List.getElem?_nil]; exact NdQ.zero hE
 ·rw [List.getD_eq_getElem?_getD]
  by_cases h : k < fs.length
  ·rw [List.getElem?_eq_getElem h, Option.getD_some]; exact hf _ (List.getElem_mem h)
  ·rw [List.getElem?_eq_none (by omega)]; exact NdQ.zero hF
end Go.Proofs.YtedlgnoiojcjaaaGreatDoor
namespace Go.Proofs.YtedlgnoiojcjaaaGreatDoor
open Go.RowKit Go.Sort
def SzO (B : Nat) (w : World) (g : Nat) (l : List Rat) : Prop := OwnV 63 B w g (2 * l.length) (szc l)
theorem SzO.ext {B : Nat} {w w' : World} {g : Nat} {l : List Rat} (h : SzO B w g l) (he : Ext w w') : SzO B w' g l := OwnV.ext h he
theorem SzO.mono {B B' : Nat} {w : World} {g : Nat} {l : List Rat} (h : SzO B w g l) (hB : B' ≤ B) : SzO B' w g l := OwnV.mono h hB
theorem SzO.val {B : Nat} {w : World} {g : Nat} {l : List Rat} (h : SzO B w g l) : SzV B w (slv g l.length l.length) l := by
 obtain ⟨cur, h1, h2, h3, h4, h5, h6⟩ := OwnV.parts h
 rw [szc_length] at h3 h6
 refine ⟨by rw [szc_length]; omega, .inr ⟨g, l.length, cur, rfl, h1, h2, Nat.le_refl _, by omega, by omega, ?_⟩⟩
 rw [Nat.mul_comm]; exact h6
theorem SzV.slice {B : Nat} {w : World} {v : Value} {l : List Rat} (h : SzV B w v l) : ∃ a n c, v = .slice a n c := by
 rcases h.2 with ⟨rfl, _⟩ | ⟨g, cap, cur, rfl, _⟩
 ·exact ⟨_, _, _, rfl⟩
 ·exact ⟨_, _, _, rfl⟩
theorem SzV.kept {B g : Nat} {w w' : World} {v : Value} {l : List Rat} (h : SzV B w v l) (hG : w.grownBy w' (some g)) (hg : g < B) : SzV B w' v l := by
 refine World.ownsRow.kept h hG ?_
 have hl := World.ownsRow.lt h
 rcases hv : v.ownBlock with _ | q
 ·exact .inl rfl
 ·refine .inr ?_
  have := hl q hv
  intro h2
  injection h2 with h2
  omega
theorem szc_set (l : List Rat) (i : Nat) (r : Rat) : ((szc l).set (2 * i) (I r.num)).set (2 * i + 1) (I r.den) = szc (l.set i r) := by
 unfold szc
 have h := fl_set (l.map fun r => qv (qR r)) i (qv (qR r))
 rw [List.map_set]; exact h
theorem SzO.cells {B : Nat} {w : World} {g : Nat} {l : List Rat} (h : SzO B w g l) {i : Nat} (hi : i < l.length) : w.cell? ⟨g, i * 2, none⟩ = some (I l[i].num) ∧ w.cell? ⟨g, i * 2 + 1, none⟩ = some (I l[i].den) := by
 obtain ⟨k1, k2⟩ := szc_get hi
 rw [Nat.mul_comm i 2]
 obtain ⟨a1, e1⟩ := List.getElem?_eq_some_iff.1 k1
 obtain ⟨a2, e2⟩ := List.getElem?_eq_some_iff.1 k2
 exact ⟨by rw [← e1]; exact OwnV.cell h a1, by rw [← e2]; exact OwnV.cell h a2⟩
theorem SzO.step {B g i : Nat} {w W : World} {l : List Rat} (hE : Ext w W) (hg : w.heap.size ≤ g) (h : SzO B W g l) (hi : i < l.length) (r : Rat) :
  (∃ a b, W.cell? ⟨g, i * 2, none⟩ = some (I a) ∧ W.cell? ⟨g, i * 2 + 1, none⟩ = some (I b)) ∧ W.frozen? ⟨g, i * 2, none⟩ = false ∧ W.frozen? ⟨g, i * 2 + 1, none⟩ = false ∧
   Hid (SzO B ((W.setCell ⟨g, i * 2, none⟩ (I r.num)).setCell ⟨g, i * 2 + 1, none⟩ (I r.den)) g (l.set i r)) ∧
   Hid (Ext w ((W.setCell ⟨g, i * 2, none⟩ (I r.num)).setCell ⟨g, i * 2 + 1, none⟩ (I r.den))) := by
 obtain ⟨c0, c1⟩ := h.cells hi
 obtain ⟨h1, g1⟩ := OwnV.set h (2 * i) (I r.num)
 obtain ⟨h2, g2⟩ := h1.set (2 * i + 1) (I r.den)
 rw [szc_set] at h2
 refine ⟨⟨_, _, c0, c1⟩, OwnV.frozen h _, OwnV.frozen h _, Lib.hid ?_, Lib.hid ?_⟩
 ·unfold SzO
  rw [List.length_set, Nat.mul_comm i 2]; exact h2
 ·rw [Nat.mul_comm i 2]; exact ext_trans_grown hE (grown_trans g1 g2) hg
theorem SzO.stepB {B K g i : Nat} {w W : World} {l : List Rat} (hE : Below K w W) (hK : K ≤ w.heap.size) (hg : K ≤ g) (h : SzO B W g l) (hi : i < l.length) (r : Rat) :
  (∃ a b, W.cell? ⟨g, i * 2, none⟩ = some (I a) ∧ W.cell? ⟨g, i * 2 + 1, none⟩ = some (I b)) ∧ W.frozen? ⟨g, i * 2, none⟩ = false ∧ W.frozen? ⟨g, i * 2 + 1, none⟩ = false ∧
   Hid (SzO B ((W.setCell ⟨g, i * 2, none⟩ (I r.num)).setCell ⟨g, i * 2 + 1, none⟩ (I r.den)) g (l.set i r)) ∧
   Hid (Below K w ((W.setCell ⟨g, i * 2, none⟩ (I r.num)).setCell ⟨g, i * 2 + 1, none⟩ (I r.den))) ∧ Hid (W.grownBy ((W.setCell ⟨g, i * 2, none⟩ (I r.num)).setCell ⟨g, i * 2 + 1, none⟩ (I r.den)) (some g)) := by
 obtain ⟨c0, c1⟩ := h.cells hi
 obtain ⟨h1, g1⟩ := OwnV.set h (2 * i) (I r.num)
 obtain ⟨h2, g2⟩ := h1.set (2 * i + 1) (I r.den)
 rw [szc_set] at h2
 refine ⟨⟨_, _, c0, c1⟩, OwnV.frozen h _, OwnV.frozen h _, Lib.hid ?_, Lib.hid ?_, Lib.hid ?_⟩
 ·unfold SzO
  rw [List.length_set, Nat.mul_comm i 2]; exact h2
 ·rw [Nat.mul_comm i 2]; exact Below.grown hE (grown_trans g1 g2) (by have := hE.size; omega) (fun q hq => by injection hq with hq; omega)
 ·rw [Nat.mul_comm i 2]; exact grown_trans g1 g2
theorem I_zeroR : I (0 : Rat).num = .string ⟨#[48]⟩ ∧ I ((0 : Rat).den : Int) = .string ⟨#[49]⟩ := by
 unfold I S
 refine ⟨?_, ?_⟩
 ·rw [show (0 : Rat).num = ((0 : Nat) : Int) from rfl, itoa_nat, dec_zero]
 ·rw [show (((0 : Rat).den : Nat) : Int) = 1 from rfl, itoa_one]
set_option maxHeartbeats 4000000 in
theorem combine_any {w : World} {pa : Option Addr} {np cp : Nat} {v fv : Value} {L : List (List Rat)} {fs : List Rat} (hG : GnR w v L) (hf : SzR w fv fs) (hc : ∀ l ∈ L, l.length = np) (hfl : L.length ≤ fs.length) (hE : ∀ l ∈ L, ∀ r ∈ l, NdQ 1000 r) (hF : ∀ r ∈ fs, NdQ 1000 r) (hn : np ≤ 1000) (hk : L.length ≤ 1000) (hL : Laid w) :
  Calls Tryz.prog 71 #[.slice pa np cp, v, fv] w fun e w' => (∃ g, e = .returned (slv g np np) ∧ w.heap.size ≤ g ∧ SzO w.heap.size w' g (cmbQ L fs np)) ∧ Ext w w' := by
 obtain ⟨sa, gb, go, cap, vs, rfl, hcap, hvl, hS, hr⟩ := hG
 obtain ⟨fa, fb, fo, fcap, rfl, hfc, hfa, hfr⟩ := hf
 have HS := Lib.hid hS
 have Hr := Lib.hid hr
 have Hv := Lib.hid hvl
 have Hc := Lib.hid hc
 have Hfa := Lib.hid hfa
 have Hfr := Lib.hid hfr
 have HL := Lib.hid hL
 have Hnd := Lib.hid (fun c k => cmbF_nd (c := c) (k := k) hE hF (by omega) (by omega))
 have Hsum := Lib.hid (fun c k (h : k ≤ 1000) => (sumR_nd k (fun t _ => cmbF_nd (c := c) (k := t) hE hF (by omega) (by omega))).smQ (by have : k * (1000 + 1000 + 1) ≤ 1000 * (1000 + 1000 + 1) := Nat.mul_le_mul_right _ h; omega))
 have Hss := Lib.hid (fun k i (h : k < L.length) (h2 : i < L[k].length) s (hs : s = L[k][i]) => show SmQ s by rw [hs]; exact (hE _ (List.getElem_mem h) _ (List.getElem_mem h2)).smQ (by omega))
 have Hpp := Lib.hid (fun k (h : k < fs.length) s (hs : fs[k] = s) => show SmQ s by rw [← hs]; exact (hF _ (List.getElem_mem h)).smQ (by omega))
 have eX := (Ext.refl w).alloc (.cells #[.string ⟨#[48]⟩, .string ⟨#[49]⟩] 63)
 have hO := two_alloc w 63 (.string ⟨#[48]⟩) (.string ⟨#[49]⟩)
 have x0 := hO.cell (j := 0) (by simp)
 have x1 := hO.cell (j := 1) (by simp)
 simp only [List.getElem_cons_zero, List.getElem_cons_succ] at x0 x1
 have hrp := Lib.hid (repeatQ_any (m := np) (by omega) (c := 1) (o := 0) (r := 0) (w := w.alloc (.cells #[.string ⟨#[48]⟩, .string ⟨#[49]⟩] 63)) (b := w.heap.size) (by rw [x0, I_zeroR.1]) (by rw [x1, I_zeroR.2]))
 have Hws := Lib.hid (show (w.alloc (.cells #[.string ⟨#[48]⟩, .string ⟨#[49]⟩] 63)).heap.size = w.heap.size + 1 by simp)
 obtain ⟨m, hm⟩ : ∃ m, m = L.length := ⟨_, rfl⟩
 obtain ⟨q, hq⟩ : ∃ q, q = fs.length := ⟨_, rfl⟩
 rw [← hm] at hcap hfl hk ⊢
 rw [← hq] at hfc hfl ⊢
 have Hm := Lib.hid hm
 have Hq := Lib.hid hq
 clear hS hr hvl hc hfa hfr hL hE hF hO x0 x1 hm hq
 go_enter Tryz.func71, Tryz.ntmps71
 go_wp2_with fail
 refine hrp.out.mono ?_
 rintro e w0 ⟨g, rfl, hg, hO, hE0⟩
 have hgw : w.heap.size ≤ g := by have := Hws.out; omega
 have HO := Lib.hid (show SzO w.heap.size w0 g (cmbTo L fs np 0 0) by
  rw [cmbTo_zero]; unfold SzO; rw [List.length_replicate]; exact OwnV.mono hO (by have := Hws.out; omega))
 have e0 := eX.trans hE0
 have Hgw := Lib.hid hgw
 clear hrp hO hE0 eX hg hgw
 go_wp2_with fail
 go_loopw [18] (fun kv wr => ∃ k : Nat, k ≤ m ∧ kv = .int .i64 k ∧ Hid (SzO w.heap.size wr g (cmbTo L fs np k 0)) ∧ Ext w wr) (fun kv _ => m - (intOf kv).toNat)
 case atStart => exact ⟨0, by omega, by go_num, HO, e0⟩
 case round =>
  obtain ⟨k, hk', rfl, HO, hE⟩ := hrel
  generalize wr = Y at *
  by_cases hlt : k < m
  ·have hki : (k : Int) < (m : Int) := by omega
   have hkL : k < L.length := by rw [← Hm.out]; exact hlt
   have hkv : k < vs.length := by rw [Hv.out]; exact hkL
   obtain rfl := HS.out.addr (by omega)
   have k0 := HS.out.cell k _ (List.getElem?_eq_getElem hkv)
   have hsz := Hr.out k hkL hkv
   have hln := Hc.out _ (List.getElem_mem hkL)
   have hLk : L.getD k [] = L[k] := by rw [List.getD_eq_getElem?_getD, List.getElem?_eq_getElem hkL]; rfl
   obtain ⟨xa, xb, xo, xc, ex, q1, q2, q3⟩ := hsz
   rw [ex] at k0
   rw [hln] at k0 q1 q2
   have hkf : k < q := by omega
   have hfk : k < fs.length := by rw [← Hq.out]; exact hkf
   obtain rfl := Hfa.out (by omega)
   have f01 := Hfr.out k hfk
   have hfD : fs.getD k 0 = fs[k] := by rw [List.getD_eq_getElem?_getD, List.getElem?_eq_getElem hfk]; rfl
   obtain ⟨p, hp⟩ : ∃ p, p = fs[k] := ⟨_, rfl⟩
   rw [← hp] at f01 hfD
   obtain ⟨f0, f1⟩ := f01
   have y0 := hE.cell k0
   have HfD := Lib.hid hfD
   have HLk := Lib.hid hLk
   have Hq2 := Lib.hid q2
   have Hln := Lib.hid hln
   have Hq3 := Lib.hid (fun i (h : i < L[k].length) => q3 i h)
   have hkfI : (k : Int) < (q : Int) := by omega
   clear ex k0 hln q2 q3 hfD hLk hkv hp
   go_wp2_with fail
   go_loopw [25] (fun iv wr => ∃ i : Nat, i ≤ np ∧ iv = .int .i64 i ∧ Hid (SzO w.heap.size wr g (cmbTo L fs np k i)) ∧ Ext w wr) (fun iv _ => np - (intOf iv).toNat)
   case atStart => exact ⟨0, by omega, by go_num, HO, hE⟩
   case round =>
    obtain ⟨i, hi, rfl, HO, eX⟩ := hrel
    generalize wr = X at *
    by_cases hli : i < np
    ·have hii : (i : Int) < (np : Int) := by omega
     obtain rfl := Hq2.out (by omega)
     have s01 := Hq3.out i (by rw [Hln.out]; exact hli)
     obtain ⟨s, hs⟩ : ∃ s, s = L[k][i]'(by rw [Hln.out]; exact hli) := ⟨_, rfl⟩
     rw [← hs] at s01
     have hFk : cmbF L fs i k = s * p := by
      unfold cmbF
      rw [HLk.out, HfD.out, List.getD_eq_getElem?_getD, List.getElem?_eq_getElem (by rw [Hln.out]; exact hli), hs]; rfl
     have hsN := Hnd.out i k
     rw [hFk] at hsN
     have hsm : SmQ s := Hss.out k i hkL (by rw [Hln.out]; exact hli) s hs
     have hpm : SmQ p := Hpp.out k hfk p (by rw [← HfD.out, List.getD_eq_getElem?_getD, List.getElem?_eq_getElem hfk]; rfl)
     obtain ⟨t, ht⟩ : ∃ t, t = sumR (cmbF L fs i) k := ⟨_, rfl⟩
     have htm := Hsum.out i k (by omega)
     rw [← ht] at htm
     have hil : i < (cmbTo L fs np k i).length := by rw [cmbTo_length]; exact hli
     have t01 := HO.out.cells hil
     have hti : (cmbTo L fs np k i)[i] = t := by
      have := cmbTo_at (l := L) (fs := fs) (k := k) hli
      rw [List.getD_eq_getElem?_getD, List.getElem?_eq_getElem hil, Option.getD_some] at this
      rw [this, ht]
     rw [hti] at t01
     have hst : (cmbTo L fs np k i).set i (t + s * p) = cmbTo L fs np k (i + 1) := by
      rw [ht, ← hFk]; exact cmbTo_step hli
     have Hst := Lib.hid hst
     have Hil := Lib.hid hil
     have hmu := Lib.hid (fun W (hW : Ext X W) => ratMul_any (a := s) (b := p) hsm hpm (HL.out.ext (eX.trans hW)))
     have had := Lib.hid (fun W (hW : Ext X W) => ratAdd_any (a := t) (b := s * p) htm (hsN.smQ (by omega)) (HL.out.ext (eX.trans hW)))
     obtain ⟨t0, t1⟩ := t01
     obtain ⟨s0, s1⟩ := s01
     have s0 := eX.cell s0
     have s1 := eX.cell s1
     have p0 := eX.cell f0
     have p1 := eX.cell f1
     clear hst hil hti htm hsN hsm hpm hFk hs ht hlt hli
     go_wp2_with fail
     have d0 : Ext X X.drew := (Ext.refl X).drew
     refine wp_region_held_tail (S := fun W => Ext X W) 16 (by kernel_rfl) (by simp) ?_
     intro inv
     generalize X.drew = X1 at *
     refine wpAnyLH_take (i := 0) (v := slv g np np) rfl (by kernel_rfl) (fun _ _ _ h => h) (.inl ⟨by rfl, fun W hW => by go_simp⟩) d0 inv ?_
     intro inv
     go_simp
     refine wpAnyLH_take (i := 1) (v := .int .i64 i) rfl (by kernel_rfl) (fun _ _ _ h => h) (.inl ⟨by rfl, fun W hW => by go_simp⟩) d0 inv ?_
     intro inv
     go_simp
     refine wpAnyLH_take (i := 2) (v := slv g np np) rfl (by kernel_rfl) (fun _ _ _ h => h) (.inl ⟨by rfl, fun W hW => by go_simp⟩) d0 inv ?_
     intro inv
     go_simp
     refine wpAnyLH_take (i := 3) (v := .int .i64 i) rfl (by kernel_rfl) (fun _ _ _ h => h) (.inl ⟨by rfl, fun W hW => by go_simp⟩) d0 inv ?_
     intro inv
     go_simp
     refine wpAnyLH_take (i := 4) (v := .pointer (some ⟨g, i * 2, none⟩)) rfl (by kernel_rfl) (fun _ _ _ h => h) (.inl ⟨by rfl, fun W hW => by go_simp⟩) d0 inv ?_
     intro inv
     go_simp
     refine wpAnyLH_take (i := 5) (v := RV t) rfl (by kernel_rfl) (fun _ _ _ h => h) (.inl ⟨by rfl, fun W hW => by have z0 := hW.cell t0; have z1 := hW.cell t1; go_simp⟩) d0 inv ?_
     intro inv
     go_simp
     refine wpAnyLH_take (i := 6) (v := .slice (some ⟨xb, xo, none⟩) np xc) rfl (by kernel_rfl) (fun _ _ _ h => h) (.inl ⟨by rfl, fun W hW => by go_simp⟩) d0 inv ?_
     intro inv
     go_simp
     refine wpAnyLH_take (i := 7) (v := .int .i64 i) rfl (by kernel_rfl) (fun _ _ _ h => h) (.inl ⟨by rfl, fun W hW => by go_simp⟩) d0 inv ?_
     intro inv
     go_simp
     refine wpAnyLH_take (i := 8) (v := .pointer (some ⟨xb, xo + i * 2, none⟩)) rfl (by kernel_rfl) (fun _ _ _ h => h) (.inl ⟨by rfl, fun W hW => by go_simp⟩) d0 inv ?_
     intro inv
     go_simp
     refine wpAnyLH_take (i := 9) (v := RV s) rfl (by kernel_rfl) (fun _ _ _ h => h) (.inl ⟨by rfl, fun W hW => by have z0 := hW.cell s0; have z1 := hW.cell s1; go_simp⟩) d0 inv ?_
     intro inv
     go_simp
     refine wpAnyLH_take (i := 10) (v := .slice (some ⟨fb, fo, none⟩) q fcap) rfl (by kernel_rfl) (fun _ _ _ h => h) (.inl ⟨by rfl, fun W hW => by go_simp⟩) d0 inv ?_
     intro inv
     go_simp
     refine wpAnyLH_take (i := 11) (v := .int .i64 k) rfl (by kernel_rfl) (fun _ _ _ h => h) (.inl ⟨by rfl, fun W hW => by go_simp⟩) d0 inv ?_
     intro inv
     go_simp
     refine wpAnyLH_take (i := 12) (v := .pointer (some ⟨fb, fo + k * 2, none⟩)) rfl (by kernel_rfl) (fun _ _ _ h => h) (.inl ⟨by rfl, fun W hW => by go_simp⟩) d0 inv ?_
     intro inv
     go_simp
     refine wpAnyLH_take (i := 13) (v := RV p) rfl (by kernel_rfl) (fun _ _ _ h => h) (.inl ⟨by rfl, fun W hW => by have z0 := hW.cell p0; have z1 := hW.cell p1; go_simp⟩) d0 inv ?_
     intro inv
     go_simp
     refine wpAnyLH_oneI (i := 14) rfl (by kernel_rfl) inv (fun inv K0 hK0 => ?_)
     go_simp
     refine (hmu.out _ d0).mono ?_
     rintro e X2 ⟨rfl, hG1⟩
     have d1 := d0.trans hG1
     refine hK0 _ _ d1 ?_
     clear hK0
     refine wpAnyLH_oneI (i := 15) rfl (by kernel_rfl) inv (fun inv K0 hK0 => ?_)
     go_simp
     refine (had.out _ d1).mono ?_
     rintro e X3 ⟨rfl, hG2⟩
     have d2 := d1.trans hG2
     refine hK0 _ _ d2 ?_
     clear hK0
     refine wpAnyLH_end (by kernel_rfl) ?_
     have HO3 := HO.out.ext d2
     obtain ⟨⟨ca, cb, z0, z1⟩, f0', f1', HO9, hE9⟩ := SzO.step ((eX.trans d2)) Hgw.out HO3 Hil.out (t + s * p)
     rw [Hst.out] at HO9
     clear hmu had inv d0 d1 hG1 hG2 t0 t1 s0 s1 p0 p1 HO HO3
     go_wp2_with fail
     go_roundw
     case rel => exact ⟨i + 1, by omega, by go_num, HO9, hE9.out⟩
     case measure => simp [intOf] <;> omega
    ·obtain rfl : i = np := by omega
     have hii : ¬ (i : Int) < (i : Int) := by omega
     have HOn := Lib.hid (show SzO w.heap.size X g (cmbTo L fs i (k + 1) 0) by rw [← cmbTo_row]; exact HO.out)
     clear HO
     go_wp2_with fail
     go_roundw
     case rel => exact ⟨k + 1, by omega, by go_num, HOn, eX⟩
     case measure => simp [intOf] <;> omega
  ·obtain rfl : k = m := by omega
   have hki : ¬ (k : Int) < (k : Int) := by omega
   have HOn := Lib.hid (show SzO w.heap.size Y g (cmbQ L fs np) by rw [← cmbTo_all, ← Hm.out]; exact HO.out)
   clear HO
   go_wp2_with fail
   go_ret
   exact ⟨⟨g, rfl, Hgw.out, HOn.out⟩, hE⟩
def nbL (x : List Int) : List Rat := x.map fun (z : Int) => (z : Rat)
@[simp] theorem nbL_length (x : List Int) : (nbL x).length = x.length := by simp [nbL]
theorem nbL_snoc {x : List Int} {i : Nat} (h : i < x.length) : nbL (x.take i) ++ [(x[i] : Rat)] = nbL (x.take (i + 1)) := by
 unfold nbL
 rw [List.take_succ_eq_append_getElem h, List.map_append]; rfl
set_option maxHeartbeats 2000000 in
theorem numbers_any {w : World} {v : Value} {x : List Int} (hx : RowR w v x) (hl : x.length ≤ 1000000) (h64 : ∀ z ∈ x, I64 z) (hL : Laid w) :
  Calls Tryz.prog 87 #[v] w fun e w' => (∃ u, e = .returned u ∧ SzV w.heap.size w' u (nbL x)) ∧ Ext w w' := by
 obtain ⟨sa, gb, go, cap, rfl, hc, hS⟩ := hx
 have HS := Lib.hid hS
 have H64 := Lib.hid h64
 have HL := Lib.hid hL
 obtain ⟨n, hn⟩ : ∃ n, n = x.length := ⟨_, rfl⟩
 rw [← hn] at hc hl ⊢
 have Hn := Lib.hid hn
 clear hS h64 hL hn
 go_enter Tryz.func87, Tryz.ntmps87
 go_wp2_with fail
 go_loopw [3, 10] (fun u iv wr => ∃ i : Nat, i ≤ n ∧ iv = .int .i64 i ∧ Hid (SzV w.heap.size wr u (nbL (x.take i))) ∧ Ext w wr) (fun _ iv _ => n - (intOf iv).toNat)
 case atStart => exact ⟨0, by omega, by go_num, Lib.hid (SzV.nil _ _), Ext.refl _⟩
 case round =>
  obtain ⟨i, hi, rfl, HV, hE⟩ := hrel
  generalize wr = Y at *
  have hYs := hE.size
  by_cases hlt : i < n
  ·have hii : (i : Int) < (n : Int) := by omega
   have hix : i < x.length := by rw [← Hn.out]; exact hlt
   obtain rfl := HS.out.addr (by simp; omega)
   have k0 := HS.out.cell i (.int .i64 x[i]) (by simp [is, List.getElem?_eq_getElem hix])
   have y0 := hE.cell k0
   have h6 := H64.out _ (List.getElem_mem hix)
   have hof := Lib.hid (fun W (hW : Ext Y W) => ratOf_any (n := x[i]) (d := 1) h6 (by omega) (by omega) (HL.out.ext (hE.trans hW)))
   rw [show ((x[i] : Rat) / ((1 : Int) : Rat)) = (x[i] : Rat) by grind] at hof
   have Hst := Lib.hid (nbL_snoc hix)
   have hlen : (nbL (x.take i)).length = i := by rw [nbL_length, List.length_take]; omega
   have Hlen := Lib.hid hlen
   have Hmin := Lib.hid (show min i x.length = i by omega)
   clear k0 hlen h6
   obtain ⟨r, hr⟩ : ∃ r : Rat, r = (x[i] : Rat) := ⟨_, rfl⟩
   rw [← hr] at hof Hst
   generalize x[i] = z at *
   clear hr hix
   go_wp2_with fail
   refine (hof.out _ (Ext.refl _)).mono ?_
   rintro e Z ⟨rfl, hE2⟩
   have eA := (hE2.alloc (.cells #[I r.num, I r.den] 63)).alloc (.cells #[I r.num, I r.den] 63)
   have hO := two_alloc (Z.alloc (.cells #[I r.num, I r.den] 63)) 63 (I r.num) (I r.den)
   rw [show (Z.alloc (.cells #[I r.num, I r.den] 63)).heap.size = Z.heap.size + 1 by simp] at hO
   have z0 := hO.cell (j := 0) (by simp)
   have z1 := hO.cell (j := 1) (by simp)
   simp only [List.getElem_cons_zero, List.getElem_cons_succ] at z0 z1
   have HVZ := Lib.hid (HV.out.ext eA)
   have hZs := hE2.size
   clear hO hof y0
   go_wp2_with (at_builtin; refine app_rat rfl _ _ 51 Tryz.underlying51 rfl (B := w.heap.size) rfl HVZ.out (b := Z.heap.size + 1) (r := r) rfl z0 z1 (by rw [Hlen.out]; omega) (by simp; omega) ?_; intro g9 cap9 w9 hO9 hB9 _; rw [Hst.out, Hlen.out] at hO9; have HO9 := Lib.hid hO9; have e9 := Below.trans (hE.trans eA) hB9; clear hO9 hB9)
   go_wp2_with fail
   go_roundw
   case rel => exact ⟨i + 1, by omega, by go_num, by rw [Hmin.out]; exact HO9, e9⟩
   case measure => simp [intOf] <;> omega
  ·obtain rfl : i = n := by omega
   have Hres := Lib.hid (show SzV w.heap.size Y _ (nbL x) by have := HV.out; rw [Hn.out, List.take_length] at this; exact this)
   have hii : ¬ (i : Int) < (i : Int) := by omega
   go_wp2_with fail
   go_ret
   exact ⟨⟨_, rfl, Hres.out⟩, hE⟩
theorem tmp_b {f : Nat → Int} (hf : ∀ i, (f i).natAbs ≤ 1000000000000000000) : ∀ k, (sumZ f k).natAbs ≤ k * 1000000000000000000
 | 0 => by simp [sumZ]
 | k + 1 => by
  have h1 := tmp_b hf k
  have h2 := hf k
  rw [sumZ]; omega
theorem nd_b66 {z : Int} (h : z.natAbs ≤ 64000000000000000000) : nd z ≤ 67 := nd_lt2 (E := 66) (by
 have e : (2 : Nat) ^ 66 = 73786976294838206464 := by decide
 rw [e]; omega)
theorem prod_b {a b : Int} (ha : -1000000000 ≤ a ∧ a ≤ 1000000000) (hb : -1000000000 ≤ b ∧ b ≤ 1000000000) : (a * b).natAbs ≤ 1000000000000000000 := by
 rw [Int.natAbs_mul]
 have := Nat.mul_le_mul (show a.natAbs ≤ 1000000000 by omega) (show b.natAbs ≤ 1000000000 by omega)
 omega
theorem getD_bd9 {l : List Int} (h : ∀ z ∈ l, -1000000000 ≤ z ∧ z ≤ 1000000000) (i : Nat) : -1000000000 ≤ l.getD i 0 ∧ l.getD i 0 ≤ 1000000000 := by
 rw [List.getD_eq_getElem?_getD]
 rcases Nat.lt_or_ge i l.length with hi | hi
 ·rw [List.getElem?_eq_getElem hi]; exact h _ (List.getElem_mem hi)
 ·rw [List.getElem?_eq_none hi]; simp
def tmpT (x v : List Int) (j : Nat) : Int := sumZ (fun i => x.getD i 0 * v.getD i 0) j
theorem tmpT_succ (x v : List Int) (j : Nat) : tmpT x v (j + 1) = tmpT x v j + x.getD j 0 * v.getD j 0 := rfl
theorem tmpT_b {x v : List Int} (hx : ∀ z ∈ x, -1000000000 ≤ z ∧ z ≤ 1000000000) (hv : ∀ z ∈ v, -1000000000 ≤ z ∧ z ≤ 1000000000) {j : Nat} (hj : j ≤ 64) : nd (tmpT x v j) ≤ 67 := by
 have := tmp_b (f := fun i => x.getD i 0 * v.getD i 0) (fun i => prod_b (getD_bd9 hx i) (getD_bd9 hv i)) j
 refine nd_b66 ?_
 unfold tmpT
 omega
set_option maxHeartbeats 4000000 in
theorem temper_any {w : World} {P : List Int} {C M : Mx} {sp : Option Addr} {cp : Nat} {sc : Option Addr} {lc cc : Nat} {sm : Option Addr} {lm cm : Nat} {sx : Option Addr} {n cx : Nat} {x : List Int} (h : TmV w P C M M sp cp sc lc cc sm lm cm) (hx : RowR w (.slice sx n cx) x) (hc : chkRow x = 0) (hl : x.length = P.length) (hL : Laid w) :
  Calls Tryz.prog 107 #[tmS P sp cp sc lc cc sm lm cm, .slice sx n cx] w fun e w' => ∃ v', e = .returned v' ∧ IntsV w.heap.size w' v' (tmpL M x) ∧ Ext w w' := by
 obtain ⟨hok, hP, hC, hM⟩ := h
 obtain ⟨psM, hIM⟩ := hok.kM.1
 have hlM := isH_len hIM
 have hp4 := hok.p4
 obtain ⟨hx64, hxb⟩ := chkRow_ok hc
 have Hxb := Lib.hid hxb
 have HsM := Lib.hid hok.sM
 have HrM := Lib.hid (show ∀ r ∈ M, r.length = x.length from fun r hr => by rw [hIM.rect r hr, hl])
 have HL := Lib.hid hL
 obtain ⟨sx', gx, ox, cx', ex, hxc, hSx⟩ := hx
 injection ex with q1 q2 q3
 subst q1 q3
 rw [q2]
 have hnx : x.length ≤ 4 := by omega
 have HSx := Lib.hid hSx
 obtain ⟨sm', gm, om, cm', vs, em, hmc, hvl, hSm, hrm⟩ := hM
 injection em with q4 q5 q6
 subst q4 q6
 rw [q5]
 have hlM4 : M.length ≤ 4 := by omega
 have HS := Lib.hid hSm
 have HV := Lib.hid hvl
 have HR := Lib.hid hrm
 have hX := (Ext.refl w).alloc (.cells #[.slice sp P.length cp, .slice sc lc cc, .slice sm M.length cm] 41)
 have x2 : (w.alloc (.cells #[.slice sp P.length cp, .slice sc lc cc, .slice sm M.length cm] 41)).cell? ⟨w.heap.size, 2, none⟩ = some (.slice sm M.length cm) := by go_simp
 have hsz : w.heap.size ≤ (w.alloc (.cells #[.slice sp P.length cp, .slice sc lc cc, .slice sm M.length cm] 41)).heap.size := by simp
 clear hxb hIM hok hP hC hl hp4 hlM hSm hvl hrm hL hSx q2 q5 hc hx64
 go_enter Tryz.func107, Tryz.ntmps107
 go_wp2_with fail
 generalize w.alloc (.cells #[.slice sp P.length cp, .slice sc lc cc, .slice sm M.length cm] 41) = V at *
 generalize P.length = np at *
 go_loopw [5, 14] (fun out idx wr => ∃ i : Nat, i ≤ M.length ∧ idx = .int .i64 i ∧ Hid (IntsV V.heap.size wr out ((tmpL M x).take i)) ∧ Ext V wr) (fun _ idx _ => M.length - (intOf idx).toNat)
 case atStart => exact ⟨0, by omega, by go_num, Lib.hid (by rw [List.take_zero]; exact IntsV.nil _ _), Ext.refl _⟩
 case round =>
  obtain ⟨i, hi', rfl, hV, hE⟩ := hrel
  generalize wr = X at *
  by_cases hlt : i < M.length
  ·have hii : (i : Int) < (M.length : Int) := by omega
   obtain rfl := HS.out.addr (by rw [HV.out]; omega)
   obtain ⟨sr, br, or, cr, hrow, hrc, hSr⟩ := MatR.row HS.out HV.out HR.out hlt
   obtain ⟨r, hr⟩ : ∃ r, r = M[i] := ⟨_, rfl⟩
   have hrl := HrM.out _ (List.getElem_mem hlt)
   have Hrb := Lib.hid (HsM.out _ (List.getElem_mem hlt))
   have Htk := Lib.hid (show (tmpL M x).take (i + 1) = (tmpL M x).take i ++ [tmpE x M[i]] by
    rw [List.take_succ_eq_append_getElem (by simpa using hlt)]
    simp [tmpL])
   rw [← hr] at hrow hrc hSr hrl Hrb Htk
   have eX := hX.trans hE
   have hrow' := eX.cell hrow
   have HSr := Lib.hid (hSr.ext eX)
   have HSx2 := Lib.hid (HSx.out.ext eX)
   have Hil := Lib.hid (show ((tmpL M x).take i).length = i by rw [List.length_take, tmpL_length]; omega)
   rw [hrl] at hrow' hrc
   clear hrow hSr hr
   obtain ⟨m, hm⟩ : ∃ m, m = x.length := ⟨_, rfl⟩
   rw [← hm] at hrow' hrc hxc hnx ⊢
   have Hm := Lib.hid hm
   have Hrl := Lib.hid (hrl.trans hm.symm)
   clear hm hrl
   go_wp2_with fail
   go_loopw [8, 20] (fun sv jdx wr => ∃ j : Nat, j ≤ m ∧ jdx = .int .i64 j ∧ sv = I (tmpT x r j) ∧ Ext X wr) (fun _ jdx _ => m - (intOf jdx).toNat)
   case atStart => exact ⟨0, by omega, by go_num, (show I 0 = _ by unfold I S; rw [itoa_zero]).symm, Ext.refl _⟩
   case round =>
    obtain ⟨j, hj, rfl, rfl, hE2⟩ := hrel
    generalize wr = Y at *
    by_cases hjl : j < m
    ·have hji : (j : Int) < (m : Int) := by omega
     have hj1 : j < x.length := by rw [← Hm.out]; exact hjl
     have hj2 : j < r.length := by rw [Hrl.out]; exact hjl
     obtain ⟨a, ha⟩ : ∃ a, a = x.getD j 0 := ⟨_, rfl⟩
     obtain ⟨b, hb⟩ : ∃ b, b = r.getD j 0 := ⟨_, rfl⟩
     have Hts := Lib.hid (tmpT_succ x r j)
     rw [← ha, ← hb] at Hts
     have hca := hE2.cell (HSx2.out.cell j (.int .i64 a) (by rw [ha, getD_get hj1]; exact is_get hj1))
     have hcb := hE2.cell (HSr.out.cell j (.int .i64 b) (by rw [hb, getD_get hj2]; exact is_get hj2))
     obtain rfl := HSx.out.addr (by simp; omega)
     obtain rfl := HSr.out.addr (by simp; omega)
     have hab := getD_bd9 Hxb.out j
     have hbb := getD_bd9 Hrb.out j
     rw [← ha] at hab
     rw [← hb] at hbb
     have n1 := tmpT_b Hxb.out Hrb.out (j := j) (by omega)
     have n2 := nd_b66 (z := a * b) (by have := prod_b hab hbb; omega)
     have n3 := nd_b66 (z := a) (by omega)
     have n4 := nd_b66 (z := b) (by omega)
     obtain ⟨s, hs⟩ : ∃ s, s = tmpT x r j := ⟨_, rfl⟩
     rw [← hs] at n1 Hts ⊢
     have eY := eX.trans hE2
     have HeY := Lib.hid eY
     have c1 := Lib.hid (quietC (w := Y) (fun W hW => wholeOf_any (n := a) (w := W) (by omega) (by omega) (HL.out.ext (HeY.out.trans hW))))
     have c2 := Lib.hid (quietC (w := Y) (fun W hW => wholeOf_any (n := b) (w := W) (by omega) (by omega) (HL.out.ext (HeY.out.trans hW))))
     have c3 := Lib.hid (quietC (w := Y) (fun W hW => Mul_any (a := a) (b := b) (w := W) (by unfold LIM; omega) (HL.out.ext (HeY.out.trans hW))))
     have c4 := Lib.hid (quietC (w := Y) (fun W hW => Add_any (a := s) (b := a * b) (w := W) (by unfold LIM; omega) (by unfold LIM; omega) (HL.out.ext (HeY.out.trans hW))))
     have k2 := cell_regrown hcb
     clear hab hbb n1 n2 n3 n4 hs ha hb eY hj1 hj2
     go_wp2_with fail
     refine wp_region_quiet_tail 10 (by kernel_rfl) (by kernel_rfl) ?_
     simp only [List.take_succ_cons, List.take_zero, List.drop_succ_cons, List.drop_zero]
     repeat (quiet_step (first | exact c1.out _ _ | exact c2.out _ _ | exact c3.out _ _ | exact c4.out _ _))
     refine wpQuiet_nil ?_
     intro _ hw'
     obtain ⟨⟨dq, osq⟩, hw''⟩ := hw'
     subst hw''
     have hE5 := hE2.trans (ext_regrown Y dq osq)
     clear c1 c2 c3 c4 k2
     generalize grow (redrawn Y dq) osq = w5 at *
     go_wp2_with fail
     go_roundw
     case rel => exact ⟨j + 1, by omega, by go_num, by rw [Hts.out], hE5⟩
     case measure => simp [intOf] <;> omega
    ·obtain rfl : j = m := by omega
     have Hte := Lib.hid (show tmpT x r j = tmpE x r by rw [Hm.out]; rfl)
     rw [Hte.out]
     have HVY := Lib.hid (hV.out.ext hE2)
     have hYs := (hE.trans hE2).size
     have hEY := hE.trans hE2
     obtain ⟨z, hz⟩ : ∃ z, z = tmpE x r := ⟨_, rfl⟩
     rw [← hz] at Htk ⊢
     clear hV hz
     go_wp2_with (at_builtin; refine app_ints rfl _ _ rfl rfl (HVY.out.ext ((Ext.refl _).alloc _)) rfl (b := Y.heap.size) (z := z) (by go_simp) (by rw [Hil.out]; omega) (by simp; omega) ?_; intro gg cap2 w8 hO8 hB8 hG8; rw [Hil.out, ← Htk.out] at hO8; rw [Hil.out])
     have hE8 : Ext V w8 := Below.trans (hEY.alloc (.cells #[I z] 61)) hB8
     have HO8 := Lib.hid hO8
     clear hG8 hB8 hO8
     go_wp2_with fail
     go_roundw
     case rel => exact ⟨i + 1, by omega, by go_num, HO8, hE8⟩
     case measure => simp [intOf] <;> omega
  ·obtain rfl : i = M.length := by omega
   have HF := Lib.hid (show IntsV V.heap.size X u5 (tmpL M x) by have := hV.out; rw [List.take_of_length_le (by simp)] at this; exact this)
   go_wp2_with fail
   go_ret
   exact ⟨_, rfl, HF.out.mono hsz, hX.trans hE⟩
theorem bgE_ok {n : Nat} {x : List Int} (h : bgE n x = 0) : chkRow x = 0 ∧ x.length = n := by
 unfold bgE at h
 split at h
 ·rename_i h1
  split at h
  ·rename_i h2; exact ⟨h1, h2⟩
  ·cases h
 ·rename_i h1; exact absurd h h1
def TpPost (w : World) (np : Nat) (M : Mx) (x : List Int) (e : Ending) (w' : World) : Prop :=
 Ext w w' ∧ ((bgE np x = 0 ∧ smallB (tmpL M x) = true ∧ ∃ v, e = .returned (.tuple #[v, .int .i64 0]) ∧ RowV w.heap.size w' v (tmpL M x)) ∨ (bgE np x = 0 ∧ smallB (tmpL M x) = false ∧ e = .returned (.tuple #[.slice none 0 0, .int .i64 4])) ∨ (bgE np x ≠ 0 ∧ e = .returned (.tuple #[.slice none 0 0, .int .i64 (bgE np x)])))
theorem tmpL_nd {M : Mx} {x : List Int} (hx : ∀ z ∈ x, -1000000000 ≤ z ∧ z ≤ 1000000000) (hM : SmK M) (hl : x.length ≤ 64) : ∀ z ∈ tmpL M x, nd z ≤ 67 := fun z hz => by
 obtain ⟨v, hv, rfl⟩ := List.mem_map.1 hz
 exact tmpT_b hx (hM v hv) hl
set_option maxHeartbeats 4000000 in
theorem Temper_any {w : World} {P : List Int} {C M : Mx} {sp : Option Addr} {cp : Nat} {sc : Option Addr} {lc cc : Nat} {sm : Option Addr} {lm cm : Nat} {sx : Option Addr} {n cx : Nat} {x : List Int} (h : TmV w P C M M sp cp sc lc cc sm lm cm) (hx : RowR w (.slice sx n cx) x) (hL : Laid w) :
  Calls Tryz.prog 59 #[tmS P sp cp sc lc cc sm lm cm, .slice sx n cx] w (TpPost w P.length M x) := by
 have hbe := fun W b (hW : Ext w W) (hc : W.cell? ⟨b, 0, none⟩ = some (.slice sx n cx)) => begin1_any (b := b) (h.ext hW) hc (hx.ext hW) (hL.ext hW)
 have hX := (Ext.refl w).alloc (.cells #[.slice sp P.length cp, .slice sc lc cc, .slice sm lm cm] 41)
 have x0 : (w.alloc (.cells #[.slice sp P.length cp, .slice sc lc cc, .slice sm lm cm] 41)).cell? ⟨w.heap.size, 0, none⟩ = some (.slice sp P.length cp) := by go_simp
 have x1 : (w.alloc (.cells #[.slice sp P.length cp, .slice sc lc cc, .slice sm lm cm] 41)).cell? ⟨w.heap.size, 1, none⟩ = some (.slice sc lc cc) := by go_simp
 have x2 : (w.alloc (.cells #[.slice sp P.length cp, .slice sc lc cc, .slice sm lm cm] 41)).cell? ⟨w.heap.size, 2, none⟩ = some (.slice sm lm cm) := by go_simp
 have hsz : w.heap.size ≤ (w.alloc (.cells #[.slice sp P.length cp, .slice sc lc cc, .slice sm lm cm] 41)).heap.size := by simp
 have xb : ((w.alloc (.cells #[.slice sp P.length cp, .slice sc lc cc, .slice sm lm cm] 41)).alloc (.cells #[.slice sx n cx] 46)).cell? ⟨w.heap.size + 1, 0, none⟩ = some (.slice sx n cx) := by go_simp
 by_cases hb : bgE P.length x = 0
 ·obtain ⟨hcx, hlx⟩ := bgE_ok hb
  obtain ⟨hx64, hxb⟩ := chkRow_ok hcx
  obtain ⟨psM, hIM⟩ := h.ok.kM.1
  have hlM := isH_len hIM
  have hp4 := h.ok.p4
  have hte := Lib.hid (fun W (hW : Ext w W) => temper_any (h.ext hW) (hx.ext hW) hcx hlx (hL.ext hW))
  rw [hb] at hbe
  have Hbe := Lib.hid hbe
  have Hnd := Lib.hid (tmpL_nd hxb h.ok.sM hx64)
  have HL := Lib.hid hL
  have Hb := Lib.hid hb
  have hlen : (tmpL M x).length ≤ 4 := by rw [tmpL_length]; omega
  clear hcx hlx hx64 hxb hIM hlM hp4 hbe hb h hx hL
  obtain ⟨l, hl⟩ : ∃ l, l = tmpL M x := ⟨_, rfl⟩
  rw [← hl] at hte Hnd hlen
  have Hl := Lib.hid hl
  clear hl
  go_enter Tryz.func59, Tryz.ntmps59
  go_wp2_with fail
  refine (Hbe.out _ (w.heap.size + 1) (hX.alloc (.cells #[.slice sx n cx] 46)) xb).mono ?_
  generalize w.alloc (.cells #[.slice sp P.length cp, .slice sc lc cc, .slice sm lm cm] 41) = V at *
  rintro e X ⟨rfl, hE1⟩
  have y0 := hE1.cell (((Ext.refl V).alloc (.cells #[.slice sx n cx] 46)).cell x0)
  have y1 := hE1.cell (((Ext.refl V).alloc (.cells #[.slice sx n cx] 46)).cell x1)
  have y2 := hE1.cell (((Ext.refl V).alloc (.cells #[.slice sx n cx] 46)).cell x2)
  have e1 := (hX.alloc (.cells #[.slice sx n cx] 46)).trans hE1
  clear x0 x1 x2 xb Hbe hX hE1
  go_wp2_with fail
  refine (hte.out _ e1).mono ?_
  rintro e X2 ⟨v1, rfl, hv1, hE2⟩
  obtain ⟨ga, gb, cap, rfl, hcap, hS⟩ := hv1.sl
  have HS := Lib.hid hS
  have e2 := e1.trans hE2
  clear hv1 hS hte hE2 y0 y1 y2
  go_wp2_with fail
  go_loopw [7, 23] (fun out idx wr => ∃ i : Nat, i ≤ l.length ∧ idx = .int .i64 i ∧ Hid (RowV X2.heap.size wr out (l.take i)) ∧ Hid (∀ j (h : j < l.length), j < i → grt l[j] = false) ∧ Ext X2 wr) (fun _ idx _ => l.length - (intOf idx).toNat)
  case atStart => exact ⟨0, by omega, by go_num, Lib.hid (by rw [List.take_zero]; exact RowV.nil _ _), Lib.hid (fun j _ h => by omega), Ext.refl _⟩
  case round =>
   obtain ⟨i, hi', rfl, HO, Hz, hE⟩ := hrel
   generalize wr = Y at *
   by_cases hlt : i < l.length
   ·have hii : (i : Int) < (l.length : Int) := by omega
    obtain ⟨z, hz⟩ : ∃ z, z = l[i] := ⟨_, rfl⟩
    have hc := hE.cell (HS.out.cell i (I z) (by rw [hz]; simp [ss, hlt]))
    rw [Nat.zero_add] at hc
    obtain rfl := HS.out.addr (by simp; omega)
    have hsm := Lib.hid (wholeSmall_any (z := z) (w := Y) (by have := Hnd.out z (by rw [hz]; exact List.getElem_mem hlt); unfold LIM; omega) (HL.out.ext (e2.trans hE)))
    have Hzz := Lib.hid hz
    have Hil := Lib.hid (show (l.take i).length = i by rw [List.length_take]; omega)
    have Htk := Lib.hid (show l.take (i + 1) = l.take i ++ [z] by rw [List.take_succ_eq_append_getElem hlt, hz])
    have hYs := hE.size
    cases hgz : grt z
    ·have hzb : -1000000000 ≤ z ∧ z ≤ 1000000000 := by
      unfold grt at hgz; have := of_decide_eq_false hgz; omega
     have hin : inI64 z = true := decide_eq_true (by omega)
     rw [hin, if_pos rfl] at hsm
     obtain ⟨hy1, hy2⟩ := hzb
     have Hgz := Lib.hid hgz
     clear hin hgz hz
     go_wp2_with fail
     refine hsm.out.mono ?_
     rintro e W ⟨rfl, hW⟩
     have HOW := Lib.hid (HO.out.ext hW)
     have hWs := (hE.trans hW).size
     have hEW := hE.trans hW
     clear HO hsm hW
     go_wp2_with (at_builtin; refine app_int rfl _ _ 46 Tryz.underlying46 rfl rfl (HOW.out.ext ((Ext.refl _).alloc _)) rfl (b := W.heap.size) (z := z) (by go_simp) (by rw [Hil.out]; omega) (by simp; omega) ?_; intro gg cap2 w8 hO8 hB8 hG8; rw [Hil.out] at hO8 ⊢; rw [← Htk.out] at hO8)
     have hE8 : Ext X2 w8 := Below.trans (hEW.alloc (.cells #[.int .i64 z] 3)) hB8
     have HO8 := Lib.hid hO8
     clear hG8 hB8 hO8
     go_wp2_with fail
     go_roundw
     case rel => exact ⟨i + 1, by omega, by go_num, HO8, Lib.hid (fun j h hj => by
      by_cases e : j = i
      ·subst e; rw [← Hzz.out]; exact Hgz.out
      ·exact Hz.out j h (by omega)), hE8⟩
     case measure => simp [intOf] <;> omega
    ·have Hno := Lib.hid (small_not hlt (by rw [← hz]; exact hgz))
     have hzb : 1000000000 < z ∨ z < -1000000000 := by
      unfold grt at hgz; exact of_decide_eq_true hgz
     clear hgz hz
     have hfin : ∀ W, Ext Y W → TpPost w P.length M x (.returned (.tuple #[.slice none 0 0, .int .i64 4])) W := fun W hW => ⟨(e2.trans hE).trans hW, .inr (.inl ⟨Hb.out, by rw [← Hl.out]; exact Hno.out, rfl⟩)⟩
     have Hfin := Lib.hid hfin
     clear hfin
     cases hin : inI64 z
     ·rw [hin, if_neg (by decide)] at hsm
      clear hin hzb
      go_wp2_with fail
      refine hsm.out.mono ?_
      rintro e W ⟨rfl, hW⟩
      go_wp2_with fail
      go_ret2
      exact Hfin.out _ hW
     ·rw [hin, if_pos rfl] at hsm
      clear hin
      rcases hzb with hzb | hzb
      ·go_wp2_with fail
       refine hsm.out.mono ?_
       rintro e W ⟨rfl, hW⟩
       go_wp2_with fail
       go_ret2
       exact Hfin.out _ hW
      ·have hzc : z ≤ 1000000000 := by omega
       go_wp2_with fail
       refine hsm.out.mono ?_
       rintro e W ⟨rfl, hW⟩
       go_wp2_with fail
       go_ret2
       exact Hfin.out _ hW
   ·obtain rfl : i = l.length := by omega
    have HF := Lib.hid (show RowV X2.heap.size Y u7 l by have := HO.out; rw [List.take_length] at this; exact this)
    have Hs := Lib.hid (show smallB l = true from small_yes (fun j hj => Hz.out j hj hj))
    have hs2 := e2.size
    go_wp2_with fail
    go_ret2
    exact ⟨e2.trans hE, .inl ⟨Hb.out, by rw [← Hl.out]; exact Hs.out, _, rfl, by rw [← Hl.out]; exact HF.out.mono hs2⟩⟩
 ·have Hbe := Lib.hid hbe
  obtain ⟨z, hz⟩ : ∃ z, z = bgE P.length x := ⟨_, rfl⟩
  have Hfin := Lib.hid (show ∀ W, Ext w W → TpPost w P.length M x (.returned (.tuple #[.slice none 0 0, .int .i64 z])) W from fun W hW => ⟨hW, .inr (.inr ⟨hb, by rw [hz]⟩)⟩)
  rw [← hz] at hbe hb
  have Hbe := Lib.hid hbe
  have h2 : (z == 0) = false := beq_eq_false_iff_ne.2 hb
  have h3 : (z != 0) = true := by simp [bne, h2]
  clear hz h hx hL hbe
  go_enter Tryz.func59, Tryz.ntmps59
  go_wp2_with fail
  refine (Hbe.out _ (w.heap.size + 1) (hX.alloc (.cells #[.slice sx n cx] 46)) xb).mono ?_
  generalize w.alloc (.cells #[.slice sp P.length cp, .slice sc lc cc, .slice sm lm cm] 41) = V at *
  rintro e X ⟨rfl, hE1⟩
  have e1 := (hX.alloc (.cells #[.slice sx n cx] 46)).trans hE1
  go_wp2_with fail
  go_ret2
  exact Hfin.out _ e1
end Go.Proofs.YtedlgnoiojcjaaaGreatDoor
