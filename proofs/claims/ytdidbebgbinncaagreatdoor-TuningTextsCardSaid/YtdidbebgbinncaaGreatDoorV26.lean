/- Part 26 of the proof of the claim: contracts of the functions that it reaches, and plain laws; no condition. -/
import Derived.Test.YtdidbebgbinncaaGreatDoorV25
import Derived.Test.YtdidbebgbinncaaGreatDoorV19
import Derived.Deep.CutRange
namespace Go.Proofs.YtdidbebgbinncaaGreatDoor
theorem nd_0 : nd 0 = 1 := Lib.nDigits_small (u := 0) (by omega)
theorem nd_1 : nd 1 = 1 := Lib.nDigits_small (u := 1) (by omega)
def NdQ (E : Nat) (r : Rat) : Prop := nd r.num ≤ E ∧ nd r.den ≤ E
theorem NdQ.mono {E F : Nat} {r : Rat} (h : NdQ E r) (hE : E ≤ F) : NdQ F r := ⟨Nat.le_trans h.1 hE, Nat.le_trans h.2 hE⟩
theorem NdQ.smQ {E : Nat} {r : Rat} (h : NdQ E r) (hE : E ≤ 100000000) : SmQ r := ⟨Nat.le_trans h.1 hE, Nat.le_trans h.2 hE⟩
theorem NdQ.of_int {E : Nat} {k : Int} (h : nd k ≤ E) : NdQ E (k : Rat) := by
  refine ⟨by simpa using h, ?_⟩
  have := nd_pos k
  rw [show (((k : Rat).den : Nat) : Int) = 1 by simp]
  rw [nd_1]; omega
theorem NdQ.zero {E : Nat} (h : 1 ≤ E) : NdQ E 0 := by
  have := NdQ.of_int (E := E) (k := 0) (by rw [nd_0]; exact h)
  simpa using this
theorem NdQ.one {E : Nat} (h : 1 ≤ E) : NdQ E 1 := by
  have := NdQ.of_int (E := E) (k := 1) (by rw [nd_1]; exact h)
  simpa using this
theorem NdQ.neg {E : Nat} {r : Rat} (h : NdQ E r) : NdQ E (-r) := by
  unfold NdQ; rw [Rat.neg_num, Rat.neg_den, nd_neg]; exact h
theorem NdQ.mk {n d : Int} {r : Rat} {E : Nat} (h : qmk n d = qR r) (hn : nd n ≤ E) (hd : nd d ≤ E) : NdQ E r := by
  obtain ⟨e1, e2⟩ := qR_eq h
  refine ⟨?_, ?_⟩
  · rw [← e1]; exact Nat.le_trans (nd_qn _ _) hn
  · rw [← e2]; exact Nat.le_trans (nd_qd _ _) hd
theorem NdQ.add {E F : Nat} {a b : Rat} (ha : NdQ E a) (hb : NdQ F b) : NdQ (E + F + 1) (a + b) := by
  have h1 := nd_mul a.num b.den
  have h2 := nd_mul b.num a.den
  have h3 := nd_mul a.den b.den
  have h4 := nd_add (a.num * b.den) (b.num * a.den)
  obtain ⟨a1, a2⟩ := ha
  obtain ⟨b1, b2⟩ := hb
  refine NdQ.mk (qadd_R a b) ?_ ?_
  · show nd (a.num * b.den + b.num * a.den) ≤ _
    omega
  · show nd ((a.den : Int) * b.den) ≤ _
    omega
theorem NdQ.sub {E F : Nat} {a b : Rat} (ha : NdQ E a) (hb : NdQ F b) : NdQ (E + F + 1) (a - b) := by
  rw [show a - b = a + -b by grind]; exact ha.add hb.neg
theorem NdQ.mul {E F : Nat} {a b : Rat} (ha : NdQ E a) (hb : NdQ F b) : NdQ (E + F) (a * b) := by
  have h1 := nd_mul a.num b.num
  have h3 := nd_mul a.den b.den
  obtain ⟨a1, a2⟩ := ha
  obtain ⟨b1, b2⟩ := hb
  refine NdQ.mk (qmul_R a b) ?_ ?_
  · show nd (a.num * b.num) ≤ _
    omega
  · show nd ((a.den : Int) * b.den) ≤ _
    omega
theorem sumR_nd {f : Nat → Rat} {E : Nat} : ∀ n, (∀ k, k < n → NdQ E (f k)) → NdQ (n * (E + 1) + 1) (sumR f n)
  | 0, _ => by rw [Nat.zero_mul]; exact NdQ.zero (by omega)
  | n + 1, h => by
    have := (sumR_nd n fun k hk => h k (by omega)).add (h n (by omega))
    refine NdQ.mono this ?_
    rw [Nat.succ_mul]; omega
theorem cmbF_nd {l : List (List Rat)} {fs : List Rat} {E F c k : Nat} (hl : ∀ s ∈ l, ∀ r ∈ s, NdQ E r) (hf : ∀ r ∈ fs, NdQ F r) (hE : 1 ≤ E) (hF : 1 ≤ F) : NdQ (E + F) (cmbF l fs c k) := by
  refine NdQ.mul ?_ ?_
  · rw [List.getD_eq_getElem?_getD, List.getD_eq_getElem?_getD]
    by_cases h : k < l.length
    · rw [List.getElem?_eq_getElem h, Option.getD_some]
      by_cases h2 : c < l[k].length
      · rw [List.getElem?_eq_getElem h2, Option.getD_some]; exact hl _ (List.getElem_mem h) _ (List.getElem_mem h2)
      · rw [List.getElem?_eq_none (by omega)]; exact NdQ.zero hE
    · rw [List.getElem?_eq_none (show l.length ≤ k by omega), Option.getD_none, List.getElem?_nil]; exact NdQ.zero hE
  · rw [List.getD_eq_getElem?_getD]
    by_cases h : k < fs.length
    · rw [List.getElem?_eq_getElem h, Option.getD_some]; exact hf _ (List.getElem_mem h)
    · rw [List.getElem?_eq_none (by omega)]; exact NdQ.zero hF
end Go.Proofs.YtdidbebgbinncaaGreatDoor
namespace Go.Proofs.YtdidbebgbinncaaGreatDoor
open Go.RowKit Go.Sort
def SzO (B : Nat) (w : World) (g : Nat) (l : List Rat) : Prop := OwnV 70 B w g (2 * l.length) (szc l)
theorem SzO.ext {B : Nat} {w w' : World} {g : Nat} {l : List Rat} (h : SzO B w g l) (he : Ext w w') : SzO B w' g l := OwnV.ext h he
theorem SzO.mono {B B' : Nat} {w : World} {g : Nat} {l : List Rat} (h : SzO B w g l) (hB : B' ≤ B) : SzO B' w g l := OwnV.mono h hB
theorem SzO.val {B : Nat} {w : World} {g : Nat} {l : List Rat} (h : SzO B w g l) : SzV B w (slv g l.length l.length) l := by
  obtain ⟨cur, h1, h2, h3, h4, h5, h6⟩ := OwnV.parts h
  rw [szc_length] at h3 h6
  refine ⟨by rw [szc_length]; omega, .inr ⟨g, l.length, cur, rfl, h1, h2, Nat.le_refl _, by omega, by omega, ?_⟩⟩
  rw [Nat.mul_comm]; exact h6
theorem SzV.slice {B : Nat} {w : World} {v : Value} {l : List Rat} (h : SzV B w v l) : ∃ a n c, v = .slice a n c := by
  rcases h.2 with ⟨rfl, _⟩ | ⟨g, cap, cur, rfl, _⟩
  · exact ⟨_, _, _, rfl⟩
  · exact ⟨_, _, _, rfl⟩
theorem SzV.kept {B g : Nat} {w w' : World} {v : Value} {l : List Rat} (h : SzV B w v l) (hG : w.grownBy w' (some g)) (hg : g < B) : SzV B w' v l := by
  refine World.ownsRow.kept h hG ?_
  have hl := World.ownsRow.lt h
  rcases hv : v.ownBlock with _ | q
  · exact .inl rfl
  · refine .inr ?_
    have := hl q hv
    intro h2
    injection h2 with h2
    omega
theorem szc_set (l : List Rat) (i : Nat) (r : Rat) : ((szc l).set (2 * i) (I r.num)).set (2 * i + 1) (I r.den) = szc (l.set i r) := by
  unfold szc
  have h := fl_set (l.map fun r => qv (qR r)) i (qv (qR r))
  rw [List.map_set]; exact h
theorem SzO.cells {B : Nat} {w : World} {g : Nat} {l : List Rat} (h : SzO B w g l) {i : Nat} (hi : i < l.length) : w.cell? ⟨g, i * 2, none⟩ = some (I l[i].num) ∧ w.cell? ⟨g, i * 2 + 1, none⟩ = some (I l[i].den) := by
  obtain ⟨k1, k2⟩ := szc_get hi
  rw [Nat.mul_comm i 2]
  obtain ⟨a1, e1⟩ := List.getElem?_eq_some_iff.1 k1
  obtain ⟨a2, e2⟩ := List.getElem?_eq_some_iff.1 k2
  exact ⟨by rw [← e1]; exact OwnV.cell h a1, by rw [← e2]; exact OwnV.cell h a2⟩
theorem SzO.step {B g i : Nat} {w W : World} {l : List Rat} (hE : Ext w W) (hg : w.heap.size ≤ g) (h : SzO B W g l) (hi : i < l.length) (r : Rat) :
    (∃ a b, W.cell? ⟨g, i * 2, none⟩ = some (I a) ∧ W.cell? ⟨g, i * 2 + 1, none⟩ = some (I b)) ∧ W.frozen? ⟨g, i * 2, none⟩ = false ∧ W.frozen? ⟨g, i * 2 + 1, none⟩ = false ∧
      Hid (SzO B ((W.setCell ⟨g, i * 2, none⟩ (I r.num)).setCell ⟨g, i * 2 + 1, none⟩ (I r.den)) g (l.set i r)) ∧
      Hid (Ext w ((W.setCell ⟨g, i * 2, none⟩ (I r.num)).setCell ⟨g, i * 2 + 1, none⟩ (I r.den))) := by
  obtain ⟨c0, c1⟩ := h.cells hi
  obtain ⟨h1, g1⟩ := OwnV.set h (2 * i) (I r.num)
  obtain ⟨h2, g2⟩ := h1.set (2 * i + 1) (I r.den)
  rw [szc_set] at h2
  refine ⟨⟨_, _, c0, c1⟩, OwnV.frozen h _, OwnV.frozen h _, Lib.hid ?_, Lib.hid ?_⟩
  · unfold SzO
    rw [List.length_set, Nat.mul_comm i 2]; exact h2
  · rw [Nat.mul_comm i 2]; exact ext_trans_grown hE (grown_trans g1 g2) hg
theorem SzO.stepB {B K g i : Nat} {w W : World} {l : List Rat} (hE : Below K w W) (hK : K ≤ w.heap.size) (hg : K ≤ g) (h : SzO B W g l) (hi : i < l.length) (r : Rat) :
    (∃ a b, W.cell? ⟨g, i * 2, none⟩ = some (I a) ∧ W.cell? ⟨g, i * 2 + 1, none⟩ = some (I b)) ∧ W.frozen? ⟨g, i * 2, none⟩ = false ∧ W.frozen? ⟨g, i * 2 + 1, none⟩ = false ∧
      Hid (SzO B ((W.setCell ⟨g, i * 2, none⟩ (I r.num)).setCell ⟨g, i * 2 + 1, none⟩ (I r.den)) g (l.set i r)) ∧
      Hid (Below K w ((W.setCell ⟨g, i * 2, none⟩ (I r.num)).setCell ⟨g, i * 2 + 1, none⟩ (I r.den))) ∧ Hid (W.grownBy ((W.setCell ⟨g, i * 2, none⟩ (I r.num)).setCell ⟨g, i * 2 + 1, none⟩ (I r.den)) (some g)) := by
  obtain ⟨c0, c1⟩ := h.cells hi
  obtain ⟨h1, g1⟩ := OwnV.set h (2 * i) (I r.num)
  obtain ⟨h2, g2⟩ := h1.set (2 * i + 1) (I r.den)
  rw [szc_set] at h2
  refine ⟨⟨_, _, c0, c1⟩, OwnV.frozen h _, OwnV.frozen h _, Lib.hid ?_, Lib.hid ?_, Lib.hid ?_⟩
  · unfold SzO
    rw [List.length_set, Nat.mul_comm i 2]; exact h2
  · rw [Nat.mul_comm i 2]; exact Below.grown hE (grown_trans g1 g2) (by have := hE.size; omega) (fun q hq => by injection hq with hq; omega)
  · rw [Nat.mul_comm i 2]; exact grown_trans g1 g2
theorem I_zeroR : I (0 : Rat).num = .string ⟨#[48]⟩ ∧ I ((0 : Rat).den : Int) = .string ⟨#[49]⟩ := by
  unfold I S
  refine ⟨?_, ?_⟩
  · rw [show (0 : Rat).num = ((0 : Nat) : Int) from rfl, itoa_nat, dec_zero]
  · rw [show (((0 : Rat).den : Nat) : Int) = 1 from rfl, itoa_one]
set_option maxRecDepth 100000 in
set_option maxHeartbeats 4000000 in
theorem combine_any {w : World} {pa : Option Addr} {np cp : Nat} {v fv : Value} {L : List (List Rat)} {fs : List Rat} (hG : GnR w v L) (hf : SzR w fv fs) (hc : ∀ l ∈ L, l.length = np) (hfl : L.length ≤ fs.length) (hE : ∀ l ∈ L, ∀ r ∈ l, NdQ 1000 r) (hF : ∀ r ∈ fs, NdQ 1000 r) (hn : np ≤ 1000) (hk : L.length ≤ 1000) (hL : Laid w) :
    Calls Tryz.prog 77 #[.slice pa np cp, v, fv] w fun e w' => (∃ g, e = .returned (slv g np np) ∧ w.heap.size ≤ g ∧ SzO w.heap.size w' g (cmbQ L fs np)) ∧ Ext w w' := by
  obtain ⟨sa, gb, go, cap, vs, rfl, hcap, hvl, hS, hr⟩ := hG
  obtain ⟨fa, fb, fcap, rfl, hfc, hfa, hfr⟩ := hf
  have HS := Lib.hid hS
  have Hr := Lib.hid hr
  have Hv := Lib.hid hvl
  have Hc := Lib.hid hc
  have Hfa := Lib.hid hfa
  have Hfr := Lib.hid hfr
  have HL := Lib.hid hL
  have Hnd := Lib.hid (fun c k => cmbF_nd (c := c) (k := k) hE hF (by omega) (by omega))
  have Hsum := Lib.hid (fun c k (h : k ≤ 1000) => (sumR_nd k (fun t _ => cmbF_nd (c := c) (k := t) hE hF (by omega) (by omega))).smQ (by have : k * (1000 + 1000 + 1) ≤ 1000 * (1000 + 1000 + 1) := Nat.mul_le_mul_right _ h; omega))
  have Hss := Lib.hid (fun k i (h : k < L.length) (h2 : i < L[k].length) s (hs : s = L[k][i]) => show SmQ s by rw [hs]; exact (hE _ (List.getElem_mem h) _ (List.getElem_mem h2)).smQ (by omega))
  have Hpp := Lib.hid (fun k (h : k < fs.length) s (hs : fs[k] = s) => show SmQ s by rw [← hs]; exact (hF _ (List.getElem_mem h)).smQ (by omega))
  have eX := (Ext.refl w).alloc (.cells #[.string ⟨#[48]⟩, .string ⟨#[49]⟩] 70)
  have hO := two_alloc w 70 (.string ⟨#[48]⟩) (.string ⟨#[49]⟩)
  have x0 := hO.cell (j := 0) (by simp)
  have x1 := hO.cell (j := 1) (by simp)
  simp only [List.getElem_cons_zero, List.getElem_cons_succ] at x0 x1
  have hrp := Lib.hid (repeatQ_any (m := np) (by omega) (c := 1) (o := 0) (r := 0) (w := w.alloc (.cells #[.string ⟨#[48]⟩, .string ⟨#[49]⟩] 70)) (b := w.heap.size) (by rw [x0, I_zeroR.1]) (by rw [x1, I_zeroR.2]))
  have Hws := Lib.hid (show (w.alloc (.cells #[.string ⟨#[48]⟩, .string ⟨#[49]⟩] 70)).heap.size = w.heap.size + 1 by simp)
  obtain ⟨m, hm⟩ : ∃ m, m = L.length := ⟨_, rfl⟩
  obtain ⟨q, hq⟩ : ∃ q, q = fs.length := ⟨_, rfl⟩
  rw [← hm] at hcap hfl hk ⊢
  rw [← hq] at hfc hfl ⊢
  have Hm := Lib.hid hm
  have Hq := Lib.hid hq
  clear hS hr hvl hc hfa hfr hL hE hF hO x0 x1 hm hq
  go_enter Tryz.func77, Tryz.ntmps77
  go_wp2_with fail
  refine hrp.out.mono ?_
  rintro e w0 ⟨g, rfl, hg, hO, hE0⟩
  have hgw : w.heap.size ≤ g := by have := Hws.out; omega
  have HO := Lib.hid (show SzO w.heap.size w0 g (cmbTo L fs np 0 0) by
    rw [cmbTo_zero]; unfold SzO; rw [List.length_replicate]; exact OwnV.mono hO (by have := Hws.out; omega))
  have e0 := eX.trans hE0
  have Hgw := Lib.hid hgw
  clear hrp hO hE0 eX hg hgw
  go_wp2_with fail
  go_loopw [18] (fun kv wr => ∃ k : Nat, k ≤ m ∧ kv = .int .i64 k ∧ Hid (SzO w.heap.size wr g (cmbTo L fs np k 0)) ∧ Ext w wr) (fun kv _ => m - (intOf kv).toNat)
  case atStart => exact ⟨0, by omega, by go_num, HO, e0⟩
  case round =>
    obtain ⟨k, hk', rfl, HO, hE⟩ := hrel
    generalize wr = Y at *
    by_cases hlt : k < m
    · have hki : (k : Int) < (m : Int) := by omega
      have hkL : k < L.length := by rw [← Hm.out]; exact hlt
      have hkv : k < vs.length := by rw [Hv.out]; exact hkL
      obtain rfl := HS.out.addr (by omega)
      have k0 := HS.out.cell k _ (List.getElem?_eq_getElem hkv)
      have hsz := Hr.out k hkL hkv
      have hln := Hc.out _ (List.getElem_mem hkL)
      have hLk : L.getD k [] = L[k] := by rw [List.getD_eq_getElem?_getD, List.getElem?_eq_getElem hkL]; rfl
      obtain ⟨xa, xb, xc, ex, q1, q2, q3⟩ := hsz
      rw [ex] at k0
      rw [hln] at k0 q1 q2
      have hkf : k < q := by omega
      have hfk : k < fs.length := by rw [← Hq.out]; exact hkf
      obtain rfl := Hfa.out (by omega)
      have f01 := Hfr.out k hfk
      have hfD : fs.getD k 0 = fs[k] := by rw [List.getD_eq_getElem?_getD, List.getElem?_eq_getElem hfk]; rfl
      obtain ⟨p, hp⟩ : ∃ p, p = fs[k] := ⟨_, rfl⟩
      rw [← hp] at f01 hfD
      obtain ⟨f0, f1⟩ := f01
      have y0 := hE.cell k0
      have HfD := Lib.hid hfD
      have HLk := Lib.hid hLk
      have Hq2 := Lib.hid q2
      have Hln := Lib.hid hln
      have Hq3 := Lib.hid (fun i (h : i < L[k].length) => q3 i h)
      have hkfI : (k : Int) < (q : Int) := by omega
      clear ex k0 hln q2 q3 hfD hLk hkv hp
      go_wp2_with fail
      go_loopw [25] (fun iv wr => ∃ i : Nat, i ≤ np ∧ iv = .int .i64 i ∧ Hid (SzO w.heap.size wr g (cmbTo L fs np k i)) ∧ Ext w wr) (fun iv _ => np - (intOf iv).toNat)
      case atStart => exact ⟨0, by omega, by go_num, HO, hE⟩
      case round =>
        obtain ⟨i, hi, rfl, HO, eX⟩ := hrel
        generalize wr = X at *
        by_cases hli : i < np
        · have hii : (i : Int) < (np : Int) := by omega
          obtain rfl := Hq2.out (by omega)
          have s01 := Hq3.out i (by rw [Hln.out]; exact hli)
          obtain ⟨s, hs⟩ : ∃ s, s = L[k][i]'(by rw [Hln.out]; exact hli) := ⟨_, rfl⟩
          rw [← hs] at s01
          have hFk : cmbF L fs i k = s * p := by
            unfold cmbF
            rw [HLk.out, HfD.out, List.getD_eq_getElem?_getD, List.getElem?_eq_getElem (by rw [Hln.out]; exact hli), hs]; rfl
          have hsN := Hnd.out i k
          rw [hFk] at hsN
          have hsm : SmQ s := Hss.out k i hkL (by rw [Hln.out]; exact hli) s hs
          have hpm : SmQ p := Hpp.out k hfk p (by rw [← HfD.out, List.getD_eq_getElem?_getD, List.getElem?_eq_getElem hfk]; rfl)
          obtain ⟨t, ht⟩ : ∃ t, t = sumR (cmbF L fs i) k := ⟨_, rfl⟩
          have htm := Hsum.out i k (by omega)
          rw [← ht] at htm
          have hil : i < (cmbTo L fs np k i).length := by rw [cmbTo_length]; exact hli
          have t01 := HO.out.cells hil
          have hti : (cmbTo L fs np k i)[i] = t := by
            have := cmbTo_at (l := L) (fs := fs) (k := k) hli
            rw [List.getD_eq_getElem?_getD, List.getElem?_eq_getElem hil, Option.getD_some] at this
            rw [this, ht]
          rw [hti] at t01
          have hst : (cmbTo L fs np k i).set i (t + s * p) = cmbTo L fs np k (i + 1) := by
            rw [ht, ← hFk]; exact cmbTo_step hli
          have Hst := Lib.hid hst
          have Hil := Lib.hid hil
          have hmu := Lib.hid (fun W (hW : Ext X W) => ratMul_any (a := s) (b := p) hsm hpm (HL.out.ext (eX.trans hW)))
          have had := Lib.hid (fun W (hW : Ext X W) => ratAdd_any (a := t) (b := s * p) htm (hsN.smQ (by omega)) (HL.out.ext (eX.trans hW)))
          obtain ⟨t0, t1⟩ := t01
          obtain ⟨s0, s1⟩ := s01
          have s0 := eX.cell s0
          have s1 := eX.cell s1
          have p0 := eX.cell f0
          have p1 := eX.cell f1
          clear hst hil hti htm hsN hsm hpm hFk hs ht hlt hli
          go_wp2_with fail
          have d0 : Ext X X.drew := (Ext.refl X).drew
          refine wp_region_held_tail (S := fun W => Ext X W) 16 (by kernel_rfl) (by simp) ?_
          intro inv
          generalize X.drew = X1 at *
          refine wpAnyLH_take (i := 0) (v := slv g np np) rfl (by kernel_rfl) (fun _ _ _ h => h) (.inl ⟨by rfl, fun W hW => by go_simp⟩) d0 inv ?_
          intro inv
          go_simp
          refine wpAnyLH_take (i := 1) (v := .int .i64 i) rfl (by kernel_rfl) (fun _ _ _ h => h) (.inl ⟨by rfl, fun W hW => by go_simp⟩) d0 inv ?_
          intro inv
          go_simp
          refine wpAnyLH_take (i := 2) (v := slv g np np) rfl (by kernel_rfl) (fun _ _ _ h => h) (.inl ⟨by rfl, fun W hW => by go_simp⟩) d0 inv ?_
          intro inv
          go_simp
          refine wpAnyLH_take (i := 3) (v := .int .i64 i) rfl (by kernel_rfl) (fun _ _ _ h => h) (.inl ⟨by rfl, fun W hW => by go_simp⟩) d0 inv ?_
          intro inv
          go_simp
          refine wpAnyLH_take (i := 4) (v := .pointer (some ⟨g, i * 2, none⟩)) rfl (by kernel_rfl) (fun _ _ _ h => h) (.inl ⟨by rfl, fun W hW => by go_simp⟩) d0 inv ?_
          intro inv
          go_simp
          refine wpAnyLH_take (i := 5) (v := RV t) rfl (by kernel_rfl) (fun _ _ _ h => h) (.inl ⟨by rfl, fun W hW => by have z0 := hW.cell t0; have z1 := hW.cell t1; go_simp⟩) d0 inv ?_
          intro inv
          go_simp
          refine wpAnyLH_take (i := 6) (v := .slice (some ⟨xb, 0, none⟩) np xc) rfl (by kernel_rfl) (fun _ _ _ h => h) (.inl ⟨by rfl, fun W hW => by go_simp⟩) d0 inv ?_
          intro inv
          go_simp
          refine wpAnyLH_take (i := 7) (v := .int .i64 i) rfl (by kernel_rfl) (fun _ _ _ h => h) (.inl ⟨by rfl, fun W hW => by go_simp⟩) d0 inv ?_
          intro inv
          go_simp
          refine wpAnyLH_take (i := 8) (v := .pointer (some ⟨xb, i * 2, none⟩)) rfl (by kernel_rfl) (fun _ _ _ h => h) (.inl ⟨by rfl, fun W hW => by go_simp⟩) d0 inv ?_
          intro inv
          go_simp
          refine wpAnyLH_take (i := 9) (v := RV s) rfl (by kernel_rfl) (fun _ _ _ h => h) (.inl ⟨by rfl, fun W hW => by have z0 := hW.cell s0; have z1 := hW.cell s1; go_simp⟩) d0 inv ?_
          intro inv
          go_simp
          refine wpAnyLH_take (i := 10) (v := .slice (some ⟨fb, 0, none⟩) q fcap) rfl (by kernel_rfl) (fun _ _ _ h => h) (.inl ⟨by rfl, fun W hW => by go_simp⟩) d0 inv ?_
          intro inv
          go_simp
          refine wpAnyLH_take (i := 11) (v := .int .i64 k) rfl (by kernel_rfl) (fun _ _ _ h => h) (.inl ⟨by rfl, fun W hW => by go_simp⟩) d0 inv ?_
          intro inv
          go_simp
          refine wpAnyLH_take (i := 12) (v := .pointer (some ⟨fb, k * 2, none⟩)) rfl (by kernel_rfl) (fun _ _ _ h => h) (.inl ⟨by rfl, fun W hW => by go_simp⟩) d0 inv ?_
          intro inv
          go_simp
          refine wpAnyLH_take (i := 13) (v := RV p) rfl (by kernel_rfl) (fun _ _ _ h => h) (.inl ⟨by rfl, fun W hW => by have z0 := hW.cell p0; have z1 := hW.cell p1; go_simp⟩) d0 inv ?_
          intro inv
          go_simp
          refine wpAnyLH_oneI (i := 14) rfl (by kernel_rfl) inv (fun inv K0 hK0 => ?_)
          go_simp
          refine (hmu.out _ d0).mono ?_
          rintro e X2 ⟨rfl, hG1⟩
          have d1 := d0.trans hG1
          refine hK0 _ _ d1 ?_
          clear hK0
          refine wpAnyLH_oneI (i := 15) rfl (by kernel_rfl) inv (fun inv K0 hK0 => ?_)
          go_simp
          refine (had.out _ d1).mono ?_
          rintro e X3 ⟨rfl, hG2⟩
          have d2 := d1.trans hG2
          refine hK0 _ _ d2 ?_
          clear hK0
          refine wpAnyLH_end (by kernel_rfl) ?_
          have HO3 := HO.out.ext d2
          obtain ⟨⟨ca, cb, z0, z1⟩, f0', f1', HO9, hE9⟩ := SzO.step ((eX.trans d2)) Hgw.out HO3 Hil.out (t + s * p)
          rw [Hst.out] at HO9
          clear hmu had inv d0 d1 hG1 hG2 t0 t1 s0 s1 p0 p1 HO HO3
          go_wp2_with fail
          go_roundw
          case rel => exact ⟨i + 1, by omega, by go_num, HO9, hE9.out⟩
          case measure => simp [intOf] <;> omega
        · obtain rfl : i = np := by omega
          have hii : ¬ (i : Int) < (i : Int) := by omega
          have HOn := Lib.hid (show SzO w.heap.size X g (cmbTo L fs i (k + 1) 0) by rw [← cmbTo_row]; exact HO.out)
          clear HO
          go_wp2_with fail
          go_roundw
          case rel => exact ⟨k + 1, by omega, by go_num, HOn, eX⟩
          case measure => simp [intOf] <;> omega
    · obtain rfl : k = m := by omega
      have hki : ¬ (k : Int) < (k : Int) := by omega
      have HOn := Lib.hid (show SzO w.heap.size Y g (cmbQ L fs np) by rw [← cmbTo_all, ← Hm.out]; exact HO.out)
      clear HO
      go_wp2_with fail
      go_ret
      exact ⟨⟨g, rfl, Hgw.out, HOn.out⟩, hE⟩
end Go.Proofs.YtdidbebgbinncaaGreatDoor
namespace Go.Proofs.YtdidbebgbinncaaGreatDoor
open Go.RowKit Go.Sort
set_option maxRecDepth 100000 in
set_option maxHeartbeats 1000000 in
theorem whole24_any {n : Int} (hn : -9223372036854775808 ≤ n ∧ n ≤ 9223372036854775807) {w : World} (hL : Laid w) :
    Calls Tryz.prog 34 #[.int .i64 n] w fun e w' => e = .returned (RV (n : Rat)) ∧ Ext w w' := by
  have hof := Lib.hid (fun W (hW : Ext w W) => ratOf_any (d := 1) hn (by omega) (by omega) (hL.ext hW))
  rw [show ((n : Rat) / ((1 : Int) : Rat)) = (n : Rat) by grind] at hof
  obtain ⟨r, hr⟩ : ∃ r : Rat, r = (n : Rat) := ⟨_, rfl⟩
  rw [← hr] at hof ⊢
  unfold RV at hof ⊢
  generalize r.num = x at *
  generalize ((r.den : Nat) : Int) = y at *
  have HO := Lib.hid (two_alloc w 70 (.string ⟨#[]⟩) (.string ⟨#[]⟩))
  have hX : Ext w (w.alloc (.cells #[.string ⟨#[]⟩, .string ⟨#[]⟩] 70)) := (Ext.refl w).alloc _
  clear hr hn hL
  go_enter Tryz.func34, Tryz.ntmps34
  go_wp2_with fail
  refine (hof.out _ hX).mono ?_
  rintro e w1 ⟨rfl, hE1⟩
  replace HO := Lib.hid (HO.out.ext hE1)
  replace hX := hX.trans hE1
  clear hof
  have HN := two_alloc w1 70 (I x) (I y)
  have hXN : Ext w1 (w1.alloc (.cells #[I x, I y] 70)) := (Ext.refl w1).alloc _
  have c0 : (w1.alloc (.cells #[I x, I y] 70)).cell? ⟨w1.heap.size, 0, none⟩ = some (I x) := HN.cell (j := 0) (by simp)
  have c1 : (w1.alloc (.cells #[I x, I y] 70)).cell? ⟨w1.heap.size, 1, none⟩ = some (I y) := HN.cell (j := 1) (by simp)
  clear HN
  replace HO := Lib.hid (HO.out.ext hXN)
  replace hX := hX.trans hXN
  obtain ⟨q0, q1, f0, f1, r0, r1, hF⟩ := two_end hX (Nat.le_refl _) HO.out (I x) (I y)
  have Hres := Lib.hid (show RetF w (.agg #[I x, I y]) (.returned (.agg #[I x, I y])) _ from ⟨rfl, hF.out⟩)
  go_wp2_with fail
  refine bodyPost_ret (v := .agg #[I x, I y]) (by simp [results, Tryz.results34, go_sem, r0, r1]) rfl Hres.out
set_option maxRecDepth 100000 in
set_option maxHeartbeats 1000000 in
theorem part24_any {n d : Int} (hn : -9223372036854775808 ≤ n ∧ n ≤ 9223372036854775807) (hd : -9223372036854775808 ≤ d ∧ d ≤ 9223372036854775807) (h0 : d ≠ 0) {w : World} (hL : Laid w) :
    Calls Tryz.prog 61 #[.int .i64 n, .int .i64 d] w fun e w' => e = .returned (RV ((n : Rat) / (d : Rat))) ∧ Ext w w' := by
  have hof := Lib.hid (fun W (hW : Ext w W) => ratOf_any hn hd h0 (hL.ext hW))
  obtain ⟨r, hr⟩ : ∃ r : Rat, r = ((n : Rat) / (d : Rat)) := ⟨_, rfl⟩
  rw [← hr] at hof ⊢
  unfold RV at hof ⊢
  generalize r.num = x at *
  generalize ((r.den : Nat) : Int) = y at *
  have HO := Lib.hid (two_alloc w 70 (.string ⟨#[]⟩) (.string ⟨#[]⟩))
  have hX : Ext w (w.alloc (.cells #[.string ⟨#[]⟩, .string ⟨#[]⟩] 70)) := (Ext.refl w).alloc _
  clear hr hn hL hd h0
  go_enter Tryz.func61, Tryz.ntmps61
  go_wp2_with fail
  refine (hof.out _ hX).mono ?_
  rintro e w1 ⟨rfl, hE1⟩
  replace HO := Lib.hid (HO.out.ext hE1)
  replace hX := hX.trans hE1
  clear hof
  have HN := two_alloc w1 70 (I x) (I y)
  have hXN : Ext w1 (w1.alloc (.cells #[I x, I y] 70)) := (Ext.refl w1).alloc _
  have c0 : (w1.alloc (.cells #[I x, I y] 70)).cell? ⟨w1.heap.size, 0, none⟩ = some (I x) := HN.cell (j := 0) (by simp)
  have c1 : (w1.alloc (.cells #[I x, I y] 70)).cell? ⟨w1.heap.size, 1, none⟩ = some (I y) := HN.cell (j := 1) (by simp)
  clear HN
  replace HO := Lib.hid (HO.out.ext hXN)
  replace hX := hX.trans hXN
  obtain ⟨q0, q1, f0, f1, r0, r1, hF⟩ := two_end hX (Nat.le_refl _) HO.out (I x) (I y)
  have Hres := Lib.hid (show RetF w (.agg #[I x, I y]) (.returned (.agg #[I x, I y])) _ from ⟨rfl, hF.out⟩)
  go_wp2_with fail
  refine bodyPost_ret (v := .agg #[I x, I y]) (by simp [results, Tryz.results61, go_sem, r0, r1]) rfl Hres.out
set_option maxRecDepth 100000 in
set_option maxHeartbeats 1000000 in
theorem part13_any {n d : Int} (hn : -9223372036854775808 ≤ n ∧ n ≤ 9223372036854775807) (hd : -9223372036854775808 ≤ d ∧ d ≤ 9223372036854775807) (h0 : d ≠ 0) {w : World} (hL : Laid w) :
    Calls Tryz.prog 159 #[.int .i64 n, .int .i64 d] w fun e w' => e = .returned (RV ((n : Rat) / (d : Rat))) ∧ Ext w w' := by
  have hof := Lib.hid (fun W (hW : Ext w W) => ratOf_any hn hd h0 (hL.ext hW))
  obtain ⟨r, hr⟩ : ∃ r : Rat, r = ((n : Rat) / (d : Rat)) := ⟨_, rfl⟩
  rw [← hr] at hof ⊢
  unfold RV at hof ⊢
  generalize r.num = x at *
  generalize ((r.den : Nat) : Int) = y at *
  have HO := Lib.hid (two_alloc w 70 (.string ⟨#[]⟩) (.string ⟨#[]⟩))
  have hX : Ext w (w.alloc (.cells #[.string ⟨#[]⟩, .string ⟨#[]⟩] 70)) := (Ext.refl w).alloc _
  clear hr hn hL hd h0
  go_enter Tryz.func159, Tryz.ntmps159
  go_wp2_with fail
  refine (hof.out _ hX).mono ?_
  rintro e w1 ⟨rfl, hE1⟩
  replace HO := Lib.hid (HO.out.ext hE1)
  replace hX := hX.trans hE1
  clear hof
  have HN := two_alloc w1 70 (I x) (I y)
  have hXN : Ext w1 (w1.alloc (.cells #[I x, I y] 70)) := (Ext.refl w1).alloc _
  have c0 : (w1.alloc (.cells #[I x, I y] 70)).cell? ⟨w1.heap.size, 0, none⟩ = some (I x) := HN.cell (j := 0) (by simp)
  have c1 : (w1.alloc (.cells #[I x, I y] 70)).cell? ⟨w1.heap.size, 1, none⟩ = some (I y) := HN.cell (j := 1) (by simp)
  clear HN
  replace HO := Lib.hid (HO.out.ext hXN)
  replace hX := hX.trans hXN
  obtain ⟨q0, q1, f0, f1, r0, r1, hF⟩ := two_end hX (Nat.le_refl _) HO.out (I x) (I y)
  have Hres := Lib.hid (show RetF w (.agg #[I x, I y]) (.returned (.agg #[I x, I y])) _ from ⟨rfl, hF.out⟩)
  go_wp2_with fail
  refine bodyPost_ret (v := .agg #[I x, I y]) (by simp [results, Tryz.results159, go_sem, r0, r1]) rfl Hres.out
end Go.Proofs.YtdidbebgbinncaaGreatDoor
